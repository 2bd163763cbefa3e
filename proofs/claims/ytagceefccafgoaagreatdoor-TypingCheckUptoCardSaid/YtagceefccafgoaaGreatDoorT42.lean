/- The natives of the reader's program are the program's functions: slices.Concat. No condition. The natives of the reader's program are the program's functions: slices.Concat, in the reader's words. No condition. -/
import Derived.Laws.OwnMore
import Derived.Below
import Derived.Test.YtagceefccafgoaaGreatDoorT41
set_option linter.all false
namespace Go.Ev.Ty
open Go.Ev Go.Proofs Go.RowKit Go.Lib
set_option linter.unusedVariables false
set_option maxHeartbeats 4000000
set_option maxRecDepth 100000
/-- A fact that the walk leaves alone. -/
structure Aside0 (p : Prop) : Prop where
  out : p
/-- A slice of texts in memory. -/
def SlT (w : World) (v : Value) (ts : List ByteArray) : Prop :=
  ∃ oa c, v = .slice oa ts.length c ∧ ts.length ≤ c ∧ (ts = [] ∨ ∃ r o, oa = some ⟨r, o, none⟩ ∧ r < w.heap.size ∧ ∀ (i : Nat) s, ts[i]? = some s → w.cell? ⟨r, o + i, none⟩ = some (.string s))
theorem run_append_owned_none' {P : Program} (w : World) (base : Nat) (t ty e : TypeId) (i : TypeInfo) (size : Nat) (ht : P.underlying t = some (.slice e)) (hi : P.info? e = some i)
    (v : Value) (n : Nat) (xs : List Value) (hown : w.ownsRow base e size v n xs) (c : Nat) :
    (Builtin.append_ #[t, t] ty #[v, .slice none 0 c]).run P w = .ok v w := by
  rcases hown.2 with ⟨rfl, rfl⟩ | ⟨g, cap, cur, rfl, _, _, hnc, _⟩
  · simp [Builtin.append_, run_underlying ht, sizeOf, typeInfo, hi, Builtin.lenOf, Builtin.firstCells]
  · simp [Builtin.append_, run_underlying ht, sizeOf, typeInfo, hi, Builtin.lenOf, Builtin.firstCells, hnc, storeCells]
theorem append_step (base : Nat) (W : World) (v : Value) (n : Nat) (xs : List Value) (hown : W.ownsRow base 9 1 v n xs) (oa : Option Addr) (c : Nat) (ts : List ByteArray)
    (hc : ts = [] ∨ ∃ r o, oa = some ⟨r, o, none⟩ ∧ ∀ (i : Nat) s, ts[i]? = some s → W.cell? ⟨r, o + i, none⟩ = some (.string s))
    (hb : n + ts.length ≤ 8589934592) (hbase : base ≤ W.heap.size) (ty : TypeId) :
    ∃ v' w', (Builtin.append_ #[32, 32] ty #[v, .slice oa ts.length c]).run Tryz.prog W = .ok v' w' ∧ w'.ownsRow base 9 1 v' (n + ts.length) (xs ++ ts.map Value.string) ∧ W.grownBy w' v.ownBlock := by
  obtain ⟨i, hi, hj⟩ := Option.map_eq_some_iff.1 info9
  simp only [Prod.mk.injEq] at hj
  obtain ⟨hz, hs, hby⟩ := hj
  cases oa with
  | none =>
    have ht : ts = [] := by
      rcases hc with h | ⟨r, o, h, _⟩
      · exact h
      · cases h
    subst ht
    exact ⟨v, W, run_append_owned_none' W base 32 ty 9 i 1 Tryz.underlying32 hi v n xs hown c, by simpa using hown, ⟨rfl, rfl, rfl, Nat.le_refl _, fun _ _ _ => rfl⟩⟩
  | some a =>
    have hcells : ∀ (j : Nat) u, (ts.map Value.string)[j]? = some u → W.cell? (a.add j) = some u := by
      intro j u hu
      rcases hc with h | ⟨r, o, h, hcc⟩
      · subst h; simp at hu
      · cases h
        rw [List.getElem?_map] at hu
        obtain ⟨s, hs, rfl⟩ := Option.map_eq_some_iff.1 hu
        rw [Addr.add_lit]
        exact hcc j s hs
    obtain ⟨v', w', h1, h2, h3, _⟩ := run_append_own (P := Tryz.prog) W base 32 ty 9 i (.string ⟨#[]⟩) 1 16 Tryz.underlying32 hi hz hs hby rfl (by decide) v n xs hown a ts.length c (ts.map Value.string) (by simp) hcells
      (by intro u hu; obtain ⟨s, _, rfl⟩ := List.mem_map.1 hu; rfl) (by unfold maxLen; omega) (by omega) hbase
    exact ⟨v', w', h1, h2, h3⟩
theorem alloc_last (w : World) (o : Obj) : (w.drew.alloc o).heap[w.heap.size]? = some o := by
  show (w.heap.push o)[w.heap.size]? = some o
  simp
theorem below_drew_alloc {B : Nat} (w : World) (o : Obj) (hB : B ≤ w.heap.size) : Below B w (w.drew.alloc o) := by
  have h : Below B w w.drew := ⟨rfl, rfl, rfl, Nat.le_refl _, fun _ _ => rfl⟩
  exact h.alloc hB o
theorem growC (n : Nat) (hn : n ≤ 8589934592) (B : Nat) (w : World) (hB : B ≤ w.heap.size) : Calls Tryz.prog 77 #[.slice none 0 0, .int .i64 n] w fun e w' => ∃ v, e = .returned v ∧ w'.ownsRow B 9 1 v 0 [] ∧ Below B w w' := by
  rcases Nat.eq_zero_or_pos n with rfl | h0
  · refine (grow_zero w).mono fun e w' ⟨he, hw⟩ => ⟨_, he, ⟨rfl, .inl ⟨rfl, rfl⟩⟩, hw ▸ Below.refl _ _⟩
  · refine (grow_pos n h0 hn w).mono fun e w' ⟨he, hw⟩ => ⟨_, he, ?_, ?_⟩
    · have hm := grownCap_le_maxLen w n 0 9 (by unfold maxLen; omega)
      have hge := grownCap_ge w n 0 9
      subst hw
      refine ⟨rfl, .inr ⟨w.heap.size, grownCap w n 0 9, _, rfl, hB, alloc_last _ _, by omega, hm, ?_, by simp⟩⟩
      have hz : (Value.string ⟨#[]⟩).cells.size = 1 := rfl
      rw [Array.size_append, size_zeroCells, size_zeroCells, hz]
      omega
    · subst hw
      exact below_drew_alloc w _ hB
theorem own_ge {W : World} {base sz n k : Nat} {e : TypeId} {v : Value} {xs : List Value} (h : W.ownsRow base e sz v n xs) (hk : v.ownBlock = some k) : base ≤ k := by
  rcases h.2 with ⟨rfl, _⟩ | ⟨g, cap, cur, rfl, hb, _⟩
  · cases hk
  · simp only [Value.ownBlock, Option.some.injEq] at hk; omega
theorem total_take (ls : List (List ByteArray)) (i : Nat) (hi : i < ls.length) : totalL (ls.take (i + 1)) = totalL (ls.take i) + ls[i].length := by
  unfold totalL; rw [List.take_succ_eq_append_getElem hi, List.map_append, List.sum_append]; simp
theorem total_le (ls : List (List ByteArray)) (i : Nat) : totalL (ls.take i) ≤ totalL ls := by
  have : totalL (ls.take i ++ ls.drop i) = totalL (ls.take i) + totalL (ls.drop i) := by unfold totalL; rw [List.map_append, List.sum_append]
  rw [List.take_append_drop] at this; omega
theorem concat_calls (g o c : Nat) (ls : List (List ByteArray)) (w : World) (hAb : g < w.heap.size) (hc : ls.length ≤ c) (hn : ls.length ≤ 4294967296) (ht : totalL ls ≤ 8589934592)
    (hv : ∀ (j : Nat) l, ls[j]? = some l → ∃ v, w.cell? ⟨g, o + j, none⟩ = some v ∧ SlT w v l) :
    Calls Tryz.prog 54 #[.slice (some ⟨g, o, none⟩) ls.length c] w fun e w' => ∃ v, e = .returned v ∧ w'.ownsRow w.heap.size 9 1 v (totalL ls) (ls.flatten.map Value.string) ∧ Below w.heap.size w w' := by
  go_enter Tryz.func54, Tryz.ntmps54
  go_wp2
  go_loopg [3, 11] ls.length (fun m u v W => ∃ i : Nat, v = .int .i64 i ∧ Aside0 (m = ls.length - i ∧ i ≤ ls.length) ∧ u = .int .i64 (totalL (ls.take i)) ∧ Aside0 (Below w.heap.size w W))
  case atStart => exact ⟨0, rfl, ⟨by omega⟩, by simp [totalL], ⟨Below.refl _ _⟩⟩
  case round =>
    obtain ⟨i, rfl, HI, rfl, HB⟩ := hrel
    by_cases ci : (i : Int) < ls.length
    · have hi : i < ls.length := by omega
      obtain ⟨e, he, oa, ce, rfl, hce, hcells⟩ := hv i ls[i] (List.getElem?_eq_getElem hi)
      have hcell : wr.cell? ⟨g, o + i, none⟩ = some (Value.slice oa ls[i].length ce) := by rw [HB.out.cell (by exact hAb)]; exact he
      have hT : totalL (ls.take (i + 1)) = totalL (ls.take i) + ls[i].length := by
        unfold totalL; rw [List.take_succ_eq_append_getElem hi, List.map_append, List.sum_append]; simp
      have hT2 : totalL (ls.take (i + 1)) ≤ totalL ls := by
        have : totalL (ls.take (i + 1) ++ ls.drop (i + 1)) = totalL (ls.take (i + 1)) + totalL (ls.drop (i + 1)) := by unfold totalL; rw [List.map_append, List.sum_append]
        rw [List.take_append_drop] at this; omega
      have hneg : ¬ (((totalL (ls.take i) : Nat) : Int) + (ls[i].length : Int) < 0) := by omega
      have hw1 : wrap64 (((totalL (ls.take i) : Nat) : Int) + (ls[i].length : Int)) = ((totalL (ls.take (i + 1)) : Nat) : Int) := by unfold wrap64; omega
      have hT' := Aside0.mk hT
      have hT2' := Aside0.mk hT2
      clear hT hT2
      go_wp2
      go_roundg (ls.length - (i + 1))
      case measure => have := HI.out; omega
      case rel => exact ⟨i + 1, rfl, ⟨rfl, by omega⟩, rfl, HB⟩
    · have hF : ls.take i = ls := List.take_of_length_le (by omega)
      have hF' := Aside0.mk hF
      clear hF
      have hF2 := Aside0.mk (show totalL (ls.take i) ≤ 8589934592 by rw [hF'.out]; exact ht)
      have hBs := Aside0.mk HB.out.size
      go_wp2_with (go_at_call 77; refine (growC (totalL (ls.take i)) hF2.out w.heap.size _ hBs.out).mono ?_; rintro e W1 ⟨v1, rfl, hown, hbl⟩; have HO := Aside0.mk hown; have HB1 := Aside0.mk (HB.out.trans hbl); clear hown hbl)
      go_loopg [6, 27] ls.length (fun m u v W => ∃ j : Nat, v = .int .i64 j ∧ Aside0 (m = ls.length - j ∧ j ≤ ls.length) ∧ Aside0 (W.ownsRow w.heap.size 9 1 u (totalL (ls.take j)) ((ls.take j).flatten.map Value.string)) ∧ Aside0 (Below w.heap.size w W))
      case atStart => exact ⟨0, rfl, ⟨by omega⟩, ⟨by simpa [totalL] using HO.out⟩, HB1⟩
      case round =>
        obtain ⟨j, rfl, HI2, HO2, HB2⟩ := hrel
        by_cases cj : (j : Int) < ls.length
        · have hj : j < ls.length := by omega
          obtain ⟨e, he, oa, ce, rfl, hce, hcells⟩ := hv j ls[j] (List.getElem?_eq_getElem hj)
          have hT := Aside0.mk (total_take ls j hj)
          have hT2 := Aside0.mk (total_le ls (j + 1))
          have hcell : wr.cell? ⟨g, o + j, none⟩ = some (Value.slice oa ls[j].length ce) := by rw [HB2.out.cell (by exact hAb)]; exact he
          have hcc : ls[j] = [] ∨ ∃ r o, oa = some ⟨r, o, none⟩ ∧ ∀ (i : Nat) s, ls[j][i]? = some s → wr.cell? ⟨r, o + i, none⟩ = some (.string s) := by
            rcases hcells with h | ⟨r, o2, h1, h2, h3⟩
            · exact .inl h
            · exact .inr ⟨r, o2, h1, fun i s hs => by rw [HB2.out.cell (by exact h2)]; exact h3 i s hs⟩
          have hfl : ((ls.take (j + 1)).flatten.map Value.string) = (ls.take j).flatten.map Value.string ++ ls[j].map Value.string := by
            rw [List.take_succ_eq_append_getElem hj, List.flatten_append, List.map_append]; simp only [List.flatten_cons, List.flatten_nil, List.append_nil]
          have hst := fun ty => append_step w.heap.size wr _ _ _ HO2.out oa ce ls[j] hcc (by have := hT.out; have := hT2.out; omega) HB2.out.size ty
          rw [← hfl, ← hT.out] at hst
          have HS := Aside0.mk hst
          have HF := Aside0.mk hfl
          clear hst hfl hcc hcells
          go_wp2_with (at_builtin; obtain ⟨v1, W1, h1, h2, h3⟩ := HS.out 32; refine Lib.wpList_append_run _ rfl _ _ _ _ rfl _ _ rfl rfl _ _ h1 ?_; have HO3 := Aside0.mk h2; have HG := Aside0.mk h3; clear h1 h2 h3)
          go_roundg (ls.length - (j + 1))
          case measure => have := HI2.out; omega
          case rel => exact ⟨j + 1, rfl, ⟨rfl, by omega⟩, HO3, ⟨HB2.out.grown HG.out HB2.out.size (fun k hk => own_ge HO2.out hk)⟩⟩
        · have hF3 : ls.take j = ls := List.take_of_length_le (by omega)
          have HO3 := HO2.out
          rw [hF3] at HO3
          have HO4 := Aside0.mk HO3
          clear HO3 hF3
          go_wp2
          go_ret
          exact ⟨u6, rfl, by have := HO4.out; rwa [List.map_flatten] at this, HB2.out⟩
end Go.Ev.Ty
namespace Go.Ev.Ty
open Go.Ev Go.Proofs Go.RowKit Go.Lib
set_option linter.unusedVariables false
variable [Consts]
theorem rows_textsOf {w : World} {S : SSet} {L : LMap} {r sz : Nat} : ∀ {xs : List (List V)} {ts : List ByteArray} {o : Nat}, textsOf xs = some ts → RowsAt w S L r sz o xs →
    ts.length = xs.length ∧ (ts ≠ [] → sz = 1 ∧ S r o) ∧ ∀ (j : Nat) x, ts[j]? = some x → w.cell? ⟨r, o + j, none⟩ = some (.string x)
  | [], l, o, h, _ => by
    simp only [textsOf, Option.some.injEq] at h
    subst h
    exact ⟨rfl, fun h => absurd rfl h, fun j x h => by simp at h⟩
  | c :: xs, l, o, h, hr => by
    unfold textsOf at h
    split at h
    · rename_i he; cases he
    · rename_i s rest he
      cases he
      simp only [RowsAt, List.length_cons, List.length_nil, CellsAt] at hr
      obtain ⟨⟨hsz, ⟨_, hS, y, hy, hry⟩, _⟩, hrest⟩ := hr
      simp only [Rep] at hry
      subst hry
      cases hs : textsOf xs with
      | none => rw [hs] at h; cases h
      | some ts =>
        rw [hs] at h
        simp only [Option.map_some, Option.some.injEq] at h
        obtain ⟨h1, h2, h3⟩ := rows_textsOf hs hrest
        subst h
        refine ⟨by simp [h1], fun _ => ⟨by omega, hS⟩, fun j x hj => ?_⟩
        cases j with
        | zero => simp at hj; subst hj; exact hy
        | succ j =>
          have := h3 j x (by simpa using hj)
          rw [show o + (j + 1) = o + sz + j from by omega]
          exact this
    · cases h
theorem slT_of {w : World} {S : SSet} {L : LMap} (hS : ∀ r o, S r o → r < w.heap.size) {xs : List (List V)} {ts : List ByteArray} {y : Value} (h : textsOf xs = some ts) (hr : Rep w S L (.slc xs) y) : SlT w y ts := by
  simp only [Rep] at hr
  obtain ⟨oa, c, rfl, hc, hrows⟩ := hr
  rcases hrows with rfl | ⟨r, o, sz, rfl, hrows⟩
  · simp only [textsOf, Option.some.injEq] at h
    subst h
    exact ⟨oa, c, rfl, hc, .inl rfl⟩
  · obtain ⟨h1, h2, h3⟩ := rows_textsOf h hrows
    by_cases hne : ts = []
    · subst hne
      have : xs.length = 0 := h1.symm
      rw [this]
      exact ⟨_, c, rfl, Nat.zero_le _, .inl rfl⟩
    · rw [← h1]
      exact ⟨_, c, rfl, by omega, .inr ⟨r, o, rfl, hS _ _ (h2 hne).2, h3⟩⟩
theorem rows_lists {w : World} {S : SSet} {L : LMap} (hS : ∀ r o, S r o → r < w.heap.size) {r sz : Nat} : ∀ {xs : List (List V)} {ls : List (List ByteArray)} {o : Nat}, listsOf xs = some ls → RowsAt w S L r sz o xs →
    ls.length = xs.length ∧ (ls ≠ [] → sz = 1 ∧ S r o) ∧ ∀ (j : Nat) l, ls[j]? = some l → ∃ v, w.cell? ⟨r, o + j, none⟩ = some v ∧ SlT w v l
  | [], l, o, h, _ => by
    simp only [listsOf, Option.some.injEq] at h
    subst h
    exact ⟨rfl, fun h => absurd rfl h, fun j x h => by simp at h⟩
  | c :: xs, l, o, h, hr => by
    have key : ∀ (v : V) (t : List ByteArray), c = [v] → (∀ y, Rep w S L v y → SlT w y t) → (listsOf xs).map (t :: ·) = some l → l.length = (c :: xs).length ∧ (l ≠ [] → sz = 1 ∧ S r o) ∧ ∀ (j : Nat) l', l[j]? = some l' → ∃ v, w.cell? ⟨r, o + j, none⟩ = some v ∧ SlT w v l' := by
      intro v t hcv hv hl
      subst hcv
      simp only [RowsAt, List.length_cons, List.length_nil, CellsAt] at hr
      obtain ⟨⟨hsz, ⟨_, hSo, y, hy, hry⟩, _⟩, hrest⟩ := hr
      cases hs : listsOf xs with
      | none => rw [hs] at hl; cases hl
      | some ts =>
        rw [hs] at hl
        simp only [Option.map_some, Option.some.injEq] at hl
        obtain ⟨h1, h2, h3⟩ := rows_lists hS hs hrest
        subst hl
        refine ⟨by simp [h1], fun _ => ⟨by omega, hSo⟩, fun j x hj => ?_⟩
        cases j with
        | zero => simp at hj; subst hj; exact ⟨y, hy, hv y hry⟩
        | succ j =>
          have := h3 j x (by simpa using hj)
          rw [show o + (j + 1) = o + sz + j from by omega]
          exact this
    unfold listsOf at h
    split at h
    · rename_i he; cases he
    · rename_i ys rest he
      cases he
      split at h
      · rename_i t ht
        exact key _ t rfl (fun y hy => slT_of hS ht hy) h
      · cases h
    · rename_i rest he
      cases he
      refine key _ [] rfl (fun y hy => ?_) h
      simp only [Rep] at hy
      obtain ⟨oa, rfl⟩ := hy
      exact ⟨oa, 0, rfl, Nat.le_refl _, .inl rfl⟩
    · cases h
theorem exp_row {w w' : World} {S : SSet} (hS : ∀ r o, S r o → r < w.heap.size) {v : Value} {ts : List ByteArray} (h : w'.ownsRow w.heap.size 9 1 v ts.length (ts.map Value.string)) : ExpRep w.heap.size w' S (.lst 1 (ts.map fun s => [.str s])) v := by
  simp only [ExpRep, Exps]
  obtain ⟨hlen, ⟨rfl, hn⟩ | ⟨g, cap, cur, rfl, hb, hg, hnc, hcm, hcs, htk⟩⟩ := h
  · have : ts = [] := List.length_eq_zero_iff.1 hn
    subst this
    exact ⟨⟨none, .slice none 0 0, 0, 1, 9⟩, [], rfl, rfl, rfl, ⟨rfl, rfl, rfl, none, rfl⟩, (fun g h => by cases h), rfl⟩
  · refine ⟨⟨some g, .slice (some ⟨g, 0, none⟩) ts.length cap, ts.length, 1, 9⟩, [], rfl, rfl, by simp, ⟨by simp, rfl, cap, cur, rfl, hb, hg, hnc, hcm, hcs, ?_, fun o h => by have := hS g o h; omega⟩, fun g' h => ?_, rfl⟩
    · intro i c hc
      rw [List.getElem?_map] at hc
      obtain ⟨s, hs, rfl⟩ := Option.map_eq_some_iff.1 hc
      refine ⟨rfl, fun j v hv => ?_⟩
      cases j with
      | succ j => simp at hv
      | zero =>
        simp at hv
        subst hv
        refine ⟨rfl, .string s, ?_, by simp only [Rep]⟩
        have hi := (List.getElem?_eq_some_iff.1 hs).1
        have h2 : (cur.toList.take (ts.length * 1))[i]? = some (.string s) := by rw [htk]; simp [hs]
        rw [List.getElem?_take_of_lt (by omega)] at h2
        simp only [World.cell?, hg]
        simpa using h2
    · simp only [Option.some.injEq] at h; omega
theorem nat_concat : CfAt Tryz.prog 54 natConcat := by
  intro us r hg w S vals hw hn0 hS hr
  unfold natConcat at hg
  split at hg
  · rename_i xss
    split at hg
    · rename_i l ls hl
      split at hg
      · rename_i hb
        cases hg
        simp only [Reps] at hr
        obtain ⟨y, _, rfl, hy, rfl⟩ := hr
        simp only [Rep] at hy
        obtain ⟨oa, c, rfl, hc, hrows⟩ := hy
        rcases hrows with rfl | ⟨g, o, sz, rfl, hrows⟩
        · simp [listsOf] at hl
        · obtain ⟨h1, h2, h3⟩ := rows_lists hS hl hrows
          have hg := hS _ _ (h2 (by simp)).2
          have hcall := concat_calls g o c (l :: ls) w hg (by omega) hb.1 hb.2 h3
          rw [h1] at hcall
          refine .inl ⟨funcOk_of Tryz.func54 (by kernel_rfl) (by kernel_rfl), hcall.mono fun e w' ⟨v, he, hown, hbl⟩ => ⟨v, he, S, hbl, fun _ _ h => h, fun _ _ h => .inl h, fun r o h => Nat.lt_of_lt_of_le (hS r o h) hbl.size, ?_⟩⟩
          refine exp_row hS ?_
          have : totalL (l :: ls) = (l :: ls).flatten.length := by unfold totalL; rw [List.length_flatten]
          rw [this] at hown
          exact hown
      · cases hg
    · cases hg
  · cases hg
end Go.Ev.Ty
