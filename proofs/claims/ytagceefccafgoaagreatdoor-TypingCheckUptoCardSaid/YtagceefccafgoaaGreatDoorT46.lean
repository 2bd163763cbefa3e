/- Format of the program, walked: the walk. Condition: the declarations are of bulk at most 1048576. -/
import Derived.Test.YtagceefccafgoaaGreatDoorT45
set_option linter.all false
namespace Go.Ev.Ty
open Go.Ev Go.Proofs Go.RowKit
set_option linter.unusedVariables false
set_option linter.unusedSectionVars false
set_option maxHeartbeats 600000
set_option maxRecDepth 100000
variable [Consts]
section
variable [GF]
theorem fmt_len {d : D} (hv : isDecl d = true) (hd : d.bulk ≤ 1048576) : ¬ 9223372036854775807 < (declT d).size + 1 := by
  have h1 := declT_size (isDecl_valid hv)
  omega
theorem fmt_next {l : List D} {A : ByteArray × Int} {i : Nat} (hi : i < l.length) {acc : ByteArray} (hv : isDecl l[i] = true) (h : Pl acc ∧ acc.size + 101 * declsB (l.drop i) ≤ 105906176 ∧ fmtR acc (l.drop i) = A) {s0 : ByteArray} (hs0 : declT l[i] = s0) :
    Pl (acc ++ s0 ++ tNl) ∧ (acc ++ s0 ++ tNl).size + 101 * declsB (l.drop (i + 1)) ≤ 105906176 ∧ fmtR (acc ++ s0 ++ tNl) (l.drop (i + 1)) = A := by
  subst hs0
  have hdrop : l.drop i = l[i] :: l.drop (i + 1) := List.drop_eq_getElem_cons hi
  have hts := declT_size (isDecl_valid hv)
  obtain ⟨hp, h2, h3⟩ := h
  rw [hdrop] at h2 h3
  refine ⟨(hp.append (Pl.decl hv)).append (by exact rfl), ?_, ?_⟩
  · simp only [declsB] at h2
    have hk : 1 ≤ l[i].bulk := by unfold D.bulk; omega
    have e1 : tNl.size = 1 := rfl
    rw [ByteArray.size_append, ByteArray.size_append]
    omega
  · simp only [fmtR, hv, if_true] at h3
    exact h3
theorem fmt_wrap {i n : Nat} (hi : i < n) (hn : n ≤ 1048576) : wrap64 ((i : Int) + 1) = ((i + 1 : Nat) : Int) := by unfold wrap64; omega
end
section
variable [GF] (hM : ProgOk Tryz.prog pg)
include hM
theorem fmt60b {d : D} {l : List D} (hd : d ∈ l) (hv : isDecl d = true) (hb : declsB l ≤ 1048576) {w wr W' : World} {S : SSet} {y : Value} (hom : Consts.om w) (hn : Consts.n0 ≤ w.heap.size) (hS : ∀ r o, S r o → r < w.heap.size) (hB : Below w.heap.size w wr) (hr : Rep wr S noL (.agg d.cells) y) (hW : Below wr.heap.size wr W') {s : ByteArray} (hs : declT d = s) :
    Calls Tryz.prog 60 #[y] W' fun e w' => e = .returned (.string s) ∧ Below wr.heap.size wr w' := by
  subst hs
  have h1 : Below w.heap.size w W' := hB.trans (hW.mono hB.size)
  have hS' : ∀ r o, S r o → r < wr.heap.size := fun r o h => Nat.lt_of_lt_of_le (hS r o h) hB.size
  refine (fmt60 hM d l hd hv hb W' S y (Consts.keep _ _ hom (h1.mono hn)) (Nat.le_trans hn h1.size) (fun r o h => Nat.lt_of_lt_of_le (hS' r o h) hW.size) (Rep.mono (keeps_below hS' hW) _ _ hr)).mono ?_
  rintro e w' ⟨he, h2⟩
  exact ⟨he, hW.trans (h2.mono hW.size)⟩
omit hM in
theorem fmt59 {acc s s0 : ByteArray} {d : D} {B : Nat} {wr W' : World} (hU : Lib.IsBuilder 103 5 B B (Lib.byteCells acc.data.toList) wr) (hW : Below wr.heap.size wr W') (hv : isDecl d = true) (hs0 : declT d = s0) (hs : s = s0 ++ tNl) (hd : d.bulk ≤ 1048576) (ha : acc.size ≤ 105906176) (hB : B ≤ wr.heap.size) :
    Calls Tryz.prog 59 #[.pointer (some ⟨B, 0, none⟩), .string s] W' fun e w' => ∃ v, e = .returned v ∧ Lib.IsBuilder 103 5 B B (Lib.byteCells (acc ++ s0 ++ tNl).data.toList) w' ∧ Below B wr w' := by
  subst hs hs0
  have hts := declT_size (isDecl_valid hv)
  refine (Tyb.writeString B B _ _ _ (bld_below hU hW) ?_ (Nat.le_trans hB hW.size)).mono ?_
  · rw [Lib.byteCells_length, ByteArray.size_append]
    have e1 : tNl.size = 1 := rfl
    have e2 : acc.data.toList.length = acc.size := rfl
    omega
  · rintro e w' ⟨rfl, h1, h2⟩
    refine ⟨_, rfl, ?_, (hW.mono hB).trans h2⟩
    right
    have e3 : Lib.byteCells (acc ++ declT d ++ tNl).data.toList = Lib.byteCells acc.data.toList ++ Lib.strCells (declT d ++ tNl) := by
      rw [Lib.strCells_eq, ← Lib.byteCells_append]
      simp [ByteArray.append_assoc]
    rw [e3]
    exact h1
theorem fmt61b {s t : ByteArray} {n : Int} (hp : Pl s) (hst : (t, n) = ((if sizedErr s = 0 then s else ⟨#[]⟩), sizedErr s)) {w W' : World} (hom : Consts.om w) (hn : Consts.n0 ≤ w.heap.size) (h1 : Below w.heap.size w W') :
    Calls Tryz.prog 61 #[.string s] W' fun e w' => e = .returned (.tuple #[.string t, .int .i64 n]) ∧ Below w.heap.size w w' := by
  cases hst
  refine (fmt61 hM s hp W' (Consts.keep _ _ hom (h1.mono hn)) (Nat.le_trans hn h1.size)).mono ?_
  rintro e w' ⟨he, h2⟩
  exact ⟨he, h1.trans (h2.mono h1.size)⟩
end
section
variable [GF] (hM : ProgOk Tryz.prog pg)
include hM
theorem fmt26 (l : List D) (A1 : ByteArray) (A2 : Int) (hA : fmtR ⟨#[]⟩ l = (A1, A2)) (hb : declsB l ≤ 1048576) (w : World) (S : SSet) (y : Value) (hom : Consts.om w) (hn : Consts.n0 ≤ w.heap.size) (hS : ∀ r o, S r o → r < w.heap.size) (hr : Rep w S noL (declsV l) y) :
    Calls Tryz.prog 26 #[y] w fun e w' => e = .returned (.tuple #[.string A1, .int .i64 A2]) ∧ Below w.heap.size w w' := by
  obtain ⟨B0, hB0⟩ : ∃ b, (l.any fun d => !isDecl d) = b := ⟨_, rfl⟩
  have h56 := fun W S y h1 h2 h3 h4 => hB0 ▸ fmt56 hM l hb W S y h1 h2 h3 h4
  have hr' := hr
  simp only [Rep] at hr'
  obtain ⟨oa, c, rfl, hc, hrows⟩ := hr'
  rw [List.length_map] at hc
  simp only [List.length_map] at hr
  have HR := Aside0.mk hr
  have HO := Aside0.mk hom
  have HN := Aside0.mk hn
  have HS := Aside0.mk hS
  have HW := Aside0.mk hrows
  clear hr hom hn hS hrows
  simp only [List.length_map]
  go_enter Tryz.func26, Tryz.ntmps26
  go_wp2_with (go_at_call 56; refine (h56 _ S _ HO.out HN.out HS.out HR.out).mono ?_; rintro e W1 ⟨rfl, hb1⟩; have HB1 := Aside0.mk hb1; clear hb1)
  · rename_i hany
    go_ret2
    have := hA.symm.trans (fmtR_bad l _ (hB0.trans hany))
    cases this
    exact ⟨rfl, HB1.out⟩
  · rename_i hany0 K hK
    have hany := hB0.trans hany0
    subst hany0
    go_loopg [11] l.length (fun m v W => ∃ (i : Nat) (acc : ByteArray), v = .int .i64 i ∧ Aside0 (m = l.length - i ∧ i ≤ l.length) ∧ Aside0 (Lib.IsBuilder 103 5 W1.heap.size W1.heap.size (Lib.byteCells acc.data.toList) W) ∧ Aside0 (Below w.heap.size w W) ∧ Aside0 (W1.heap.size ≤ W.heap.size) ∧ Aside0 (Pl acc ∧ acc.size + 101 * declsB (l.drop i) ≤ 105906176 ∧ fmtR acc (l.drop i) = (A1, A2)))
    case atStart =>
      refine ⟨0, ⟨#[]⟩, rfl, ⟨by omega⟩, ⟨Lib.fresh_isBuilder 103 5 W1⟩, ⟨HB1.out.alloc HB1.out.size _⟩, ⟨?_⟩, ⟨rfl, ?_, hA⟩⟩
      · simp
      · simp only [List.drop_zero]; show 0 + _ ≤ _; omega
    case round =>
      obtain ⟨i, acc, rfl, HI, HU, HB, HG, HA⟩ := hrel
      by_cases ci : (i : Int) < l.length
      · have hi : i < l.length := by omega
        have hdm := List.getElem_mem hi
        have hdv : isDecl l[i] = true := by
          have := hany
          rw [List.any_eq_false] at this
          simpa using this _ hdm
        obtain ⟨r, o, rfl, hrow⟩ : ∃ r o, oa = some ⟨r, o, none⟩ ∧ RowsAt w S noL r 22 o (l.map D.cells) := by
          rcases HW.out with h | ⟨r, o, sz, h1, h2⟩
          · rw [List.map_eq_nil_iff] at h; subst h; simp at hi
          · have := (rows_at (i := i) (c := l[i].cells) h2 (by rw [List.getElem?_map, List.getElem?_eq_getElem hi]; rfl)).1
            rw [D.len] at this
            subst this
            exact ⟨r, o, h1, h2⟩
        obtain ⟨vs, hld, hvs, hsz, hone⟩ := load_decl (RowsAt.mono (keeps_below HS.out HB.out) _ _ _ _ hrow) i hi
        have HL := Aside0.mk hld
        have HY := Aside0.mk hsz
        have HX := Aside0.mk hone
        have HV := Aside0.mk hvs
        obtain ⟨s0, hs0⟩ : ∃ s, declT l[i] = s := ⟨_, rfl⟩
        have HT := Aside0.mk hs0
        clear hs0
        have HD := Aside0.mk hdv
        have HM := Aside0.mk hdm
        clear hvs hdv hdm hrow hany hld hsz hone
        have HK := Aside0.mk (bulk_lens hb HM.out).2.2.2.2.2.2
        have HZ := Aside0.mk (show acc.size ≤ 105906176 by have := HA.out.2.1; omega)
        have hw1 := Aside0.mk (fmt_wrap hi (Nat.le_trans (declsB_len l) hb))
        have hme := Aside0.mk (show l.length - (i + 1) < gk by have := HI.out; omega)
        go_wp2_with (first | (refine wpl_load rfl 42 _ rfl _ rfl HL.out ?_) | (refine wpl_store42 rfl _ _ rfl rfl rfl rfl HY.out HX.out ?_) | (refine wpl_load42 rfl _ rfl rfl HY.out ?_) | (go_at_call 60; refine (fmt60b hM HM.out HD.out hb HO.out HN.out HS.out HB.out HV.out ((Below.refl _ _).alloc (Nat.le_refl _) _) HT.out).mono ?_; rintro e W2 ⟨rfl, hb2⟩; have HB2 := Aside0.mk hb2; clear hb2) | (go_at_call 59; refine (fmt59 HU.out HB2.out HD.out HT.out rfl HK.out HZ.out HG.out).mono ?_; rintro e W3 ⟨v, rfl, hu3, hb3⟩; have HU3 := Aside0.mk hu3; have HB3 := Aside0.mk hb3; clear hu3 hb3))
        · rename_i hlong
          exact absurd hlong (HT.out ▸ fmt_len HD.out HK.out)
        · rw [hw1.out]
          go_roundg (l.length - (i + 1))
          case measure => exact hme.out
          case rel => exact ⟨i + 1, acc ++ s0 ++ tNl, rfl, ⟨rfl, hi⟩, HU3, ⟨HB.out.trans (HB3.out.mono HB1.out.size)⟩, ⟨Nat.le_trans HG.out HB3.out.size⟩, ⟨fmt_next hi HD.out HA.out HT.out⟩⟩
      · have hF : l.drop i = [] := List.drop_of_length_le (by omega)
        have h3 := HA.out.2.2
        have hp := Aside0.mk HA.out.1
        rw [hF] at h3
        simp only [fmtR] at h3
        have HF := Aside0.mk h3
        clear h3 hF
        go_wp2_with (first | (go_at_call 62; refine (Tryz.Builder_String_any _ _ _ _ HU.out HG.out).mono ?_; rintro e W2 ⟨rfl, hb2⟩; have HB2 := Aside0.mk hb2; clear hb2) | (go_at_call 61; refine (fmt61b hM hp.out HF.out.symm HO.out HN.out (HB.out.trans (HB2.out.mono HB1.out.size))).mono ?_; rintro e W3 ⟨rfl, hb3⟩; have HB3 := Aside0.mk hb3; clear hb3))
        go_ret2
        exact ⟨rfl, HB3.out⟩
end
end Go.Ev.Ty
