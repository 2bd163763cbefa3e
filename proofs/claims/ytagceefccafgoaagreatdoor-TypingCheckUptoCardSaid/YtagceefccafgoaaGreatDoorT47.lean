/- The program's own Format as a native of the reader; the law's call. Condition: the declarations are of bulk at most 1048576; the table of powers of ten is as the program lays it. The argument of the law: what a reading of a list of declarations gives. No condition. -/
import Derived.Test.YtagceefccafgoaaGreatDoorT16
import Derived.Test.YtagceefccafgoaaGreatDoorT29
import Derived.Test.YtagceefccafgoaaGreatDoorT37
import Derived.Test.YtagceefccafgoaaGreatDoorT46
set_option linter.all false
namespace Go.Ev.Ty
open Go.Ev Go.Proofs Go.RowKit
set_option linter.unusedVariables false
set_option linter.unusedSectionVars false
/- The embedding is one to one. -/
theorem map_inj {α : Type} {f : α → List V} (h : ∀ a b, f a = f b → a = b) : ∀ l l' : List α, l.map f = l'.map f → l = l'
  | [], [], _ => rfl
  | [], _ :: _, h => by simp at h
  | _ :: _, [], h => by simp at h
  | a :: l, b :: l', e => by
    simp only [List.map_cons, List.cons.injEq] at e
    rw [h a b e.1, map_inj h l l' e.2]
theorem strs_inj {l l' : List ByteArray} (h : strsV l = strsV l') : l = l' := by
  simp only [V.slc.injEq] at h
  exact map_inj (fun a b e => by simpa using e) l l' h
theorem ints_inj {l l' : List Int} (h : intsV l = intsV l') : l = l' := by
  simp only [V.slc.injEq] at h
  exact map_inj (fun a b e => by simpa using e) l l' h
mutual
theorem T.cells_inj : ∀ a b : T, a.cells = b.cells → a = b
  | .mk o1 n1 d1 w1 k1, .mk o2 n2 d2 w2 k2, h => by
    simp only [T.cells, List.cons.injEq, V.int.injEq, V.str.injEq, and_true, true_and] at h
    obtain ⟨rfl, rfl, rfl, h1, h2⟩ := h
    rw [ints_inj h1, cellsTs_inj k1 k2 (by simpa using h2)]
theorem cellsTs_inj : ∀ a b : List T, cellsTs a = cellsTs b → a = b
  | [], [], _ => rfl
  | [], _ :: _, h => by simp [cellsTs] at h
  | _ :: _, [], h => by simp [cellsTs] at h
  | a :: l, b :: l', h => by
    simp only [cellsTs, List.cons.injEq] at h
    rw [T.cells_inj a b h.1, cellsTs_inj l l' h.2]
end
theorem FT.cells_inj (a b : FT) (h : a.cells = b.cells) : a = b := by
  obtain ⟨a1, a2, a3, a4, a5, a6⟩ := a
  obtain ⟨b1, b2, b3, b4, b5, b6⟩ := b
  simp only [FT.cells, List.cons.injEq, V.int.injEq, V.str.injEq, and_true, true_and] at h
  obtain ⟨rfl, rfl, rfl, rfl, h1, h2⟩ := h
  rw [strs_inj h1, strs_inj h2]
theorem D.cells_inj (a b : D) (h : a.cells = b.cells) : a = b := by
  have h5 := congrArg (fun c : List V => (c.drop 5).take 5) h
  have h11 := congrArg (fun c : List V => (c.drop 11).take 5) h
  have h16 := congrArg (fun c : List V => (c.drop 16).take 5) h
  simp only [D.t5, D.t11, D.t16] at h5 h11 h16
  have g0 := congrArg (fun c : List V => c[0]?) h
  have g1 := congrArg (fun c : List V => c[1]?) h
  have g2 := congrArg (fun c : List V => c[2]?) h
  have g3 := congrArg (fun c : List V => c[3]?) h
  have g4 := congrArg (fun c : List V => c[4]?) h
  have g10 := congrArg (fun c : List V => c[10]?) h
  have g21 := congrArg (fun c : List V => c[21]?) h
  simp only [D.c0, D.c1, D.c2, D.c3, D.c4, D.c10, D.c21, Option.some.injEq, V.int.injEq, V.str.injEq, true_and] at g0 g1 g2 g3 g4 g10 g21
  replace h5 := T.cells_inj _ _ h5
  replace h11 := T.cells_inj _ _ h11
  replace h16 := T.cells_inj _ _ h16
  replace g3 := strs_inj g3
  simp only [V.slc.injEq] at g4
  replace g4 := map_inj FT.cells_inj _ _ g4
  obtain ⟨a1, a2, a3, a4, a5, a6, a7, a8, a9, a10⟩ := a
  obtain ⟨b1, b2, b3, b4, b5, b6, b7, b8, b9, b10⟩ := b
  simp only at h5 h11 h16 g0 g1 g2 g3 g4 g10 g21
  rw [h5, h11, h16, g0, g1, g2, g3, g4, g10, g21]
theorem decls_inj {l l' : List D} (h : declsV l = declsV l') : l = l' := by
  simp only [V.slc.injEq] at h
  exact map_inj D.cells_inj _ _ h
open Classical in
/-- What the program's Format answers. -/
noncomputable def natFmt (us : List V) : Option V :=
  if h : ∃ l : List D, declsB l ≤ 1048576 ∧ us = [declsV l] then some (.tup [.str (fmtR ⟨#[]⟩ h.choose).1, iV (fmtR ⟨#[]⟩ h.choose).2]) else none
theorem natFmt_at (l : List D) (hb : declsB l ≤ 1048576) : natFmt [declsV l] = some (.tup [.str (fmtR ⟨#[]⟩ l).1, iV (fmtR ⟨#[]⟩ l).2]) := by
  have h : ∃ l' : List D, declsB l' ≤ 1048576 ∧ [declsV l] = [declsV l'] := ⟨l, hb, rfl⟩
  have e : h.choose = l := by
    have := (List.cons.inj h.choose_spec.2).1
    exact (decls_inj this).symm
  unfold natFmt
  rw [dif_pos h, e]
variable [Consts]
theorem cf_fmt (ht : PowTab) : CfAt Tryz.prog 26 natFmt := by
  letI : GF := ⟨fun _ => none⟩
  have hM : ProgOk Tryz.prog pg := pg_ok ht (fun us r h => by cases h)
  intro us r hg w S vals hom hn hS hr
  unfold natFmt at hg
  split at hg
  · rename_i h
    have hb := h.choose_spec.1
    have hu := h.choose_spec.2
    generalize h.choose = l at hb hu hg
    subst hu
    cases hg
    simp only [Reps] at hr
    obtain ⟨y, _, rfl, hy, rfl⟩ := hr
    refine .inl ⟨funcOk_of Tryz.func26 (by kernel_rfl) (by kernel_rfl), (fmt26 hM l _ _ rfl hb w S y hom hn hS hy).mono ?_⟩
    rintro e w' ⟨rfl, hbl⟩
    refine ⟨_, rfl, S, hbl, fun _ _ h => h, fun _ _ h => .inl h, fun r o h => Nat.lt_of_lt_of_le (hS r o h) hbl.size, ?_⟩
    simp only [ExpRep, Exps, Rep]
    exact ⟨_, rfl, _, _, rfl, rfl, _, _, rfl, rfl, rfl⟩
  · cases hg
/-- The law's call. -/
theorem law_calls (ht : PowTab) (l : List D) (hb : declsB l ≤ 1048576) (w : World) (S : SSet) (y : Value) (hom : Consts.om w) (hn : Consts.n0 ≤ w.heap.size) (hS : ∀ r o, S r o → r < w.heap.size) (hr : Rep w S noL (declsV l) y) :
    Calls Tryz.prog 3 #[y] w fun e w' => e = .returned (.bool true) ∧ Below w.heap.size w w' := by
  letI : GF := ⟨natFmt⟩
  have hM : ProgOk Tryz.prog pg := pg_ok ht (cf_fmt ht)
  refine (calls_of hM (s3a natFmt_at l hb) w S [y] hom hn hS (by simp only [Reps]; exact ⟨_, _, rfl, hr, rfl⟩) Tryz.func3 (by kernel_rfl)).mono ?_
  rintro e w' ⟨x, rfl, hbl, S', hx⟩
  simp only [ExpRep, Rep] at hx
  subst hx
  exact ⟨rfl, hbl⟩
#print axioms law_calls
end Go.Ev.Ty
namespace Go.Ev.Ty
open Go.Ev Go.Proofs Go.RowKit
set_option linter.unusedVariables false
set_option linter.unusedSectionVars false
variable [Consts]
section
variable {H : Type} {enc : TypeId × Value → H} {w : World} {spare : Nat → Bool} {held : Bool}
theorem cz9 : Tryz.prog.cellsOf 9 = 1 := by kernel_rfl
theorem cz3 : Tryz.prog.cellsOf 3 = 1 := by kernel_rfl
theorem cz32 : Tryz.prog.cellsOf 32 = 1 := by kernel_rfl
theorem cz36 : Tryz.prog.cellsOf 36 = 1 := by kernel_rfl
theorem cz37 : Tryz.prog.cellsOf 37 = 1 := by kernel_rfl
theorem cz38 : Tryz.prog.cellsOf 38 = 1 := by kernel_rfl
theorem cz40 : Tryz.prog.cellsOf 40 = 5 := by kernel_rfl
theorem cz42 : Tryz.prog.cellsOf 42 = 22 := by kernel_rfl
theorem cz71 : Tryz.prog.cellsOf 71 = 6 := by kernel_rfl
theorem o3 (n : Nat) : Opens enc Tryz.prog w spare held n 3 (fun i : Int => [iV i]) (fun _ => 1) := open_int Tryz.underlying3
theorem o9 (n : Nat) : Opens enc Tryz.prog w spare held n 9 (fun s : ByteArray => [.str s]) (fun s => s.size + 1) := open_str Tryz.underlying9
theorem namesB_sum : ∀ l : List ByteArray, (l.map fun s => s.size + 1).sum = namesB l
  | [] => rfl
  | s :: l => by have := namesB_sum l; simp only [List.map_cons, List.sum_cons, namesB]; omega
theorem o32 (n : Nat) : Opens enc Tryz.prog w spare held n 32 (fun l : List ByteArray => [strsV l]) (fun l => namesB l + 1) :=
  (open_slc Tryz.underlying32 cz9 (by decide) fun m _ => o9 m).map id (fun _ => rfl) (fun l => by simp only [id, namesB_sum]; exact Nat.le_refl _)
theorem ones_sum : ∀ l : List Int, (l.map fun _ => 1).sum = l.length
  | [] => rfl
  | _ :: l => by have := ones_sum l; simp only [List.map_cons, List.sum_cons, List.length_cons]; omega
theorem o37 (n : Nat) : Opens enc Tryz.prog w spare held n 37 (fun l : List Int => [intsV l]) (fun l => l.length + 1) :=
  (open_slc (e := 3) Tryz.underlying37 cz3 (by decide) fun m _ => o3 m).map id (fun _ => rfl) (fun l => by simp only [id, ones_sum]; exact Nat.le_refl _)
theorem sizes_sum : ∀ l : List T, (l.map T.size).sum = sizes l
  | [] => rfl
  | t :: l => by have := sizes_sum l; simp only [List.map_cons, List.sum_cons, sizes]; omega
theorem o40 : ∀ n, Opens enc Tryz.prog w spare held n 40 T.cells T.size := by
  intro n
  induction n using Nat.strongRecOn with
  | ind n ih =>
    refine (open_struct Tryz.underlying40 cz40 fun m hm => open_fs rfl cz3 rfl (o3 m) (open_fs rfl cz9 rfl (o9 m) (open_fs rfl cz3 rfl (o3 m) (open_fs rfl cz37 rfl (o37 m) (open_fs rfl cz38 rfl
      (open_slc (e := 40) Tryz.underlying38 cz40 (by decide) fun k hk => ih k (by omega)) open_fs0))))).map (fun p => T.mk p.1 p.2.1 p.2.2.1 p.2.2.2.1 p.2.2.2.2.1) (fun p => ?_) (fun p => ?_)
    · simp [T.cells, cellsTs_map]
    · simp only [T.size, sizes_sum]
      omega
theorem o71 (n : Nat) : Opens enc Tryz.prog w spare held n 71 FT.cells FT.bulk := by
  refine (open_struct Tryz.underlying71 cz71 fun m hm => open_fs rfl cz3 rfl (o3 m) (open_fs rfl cz9 rfl (o9 m) (open_fs rfl cz3 rfl (o3 m) (open_fs rfl cz3 rfl (o3 m) (open_fs rfl cz32 rfl (o32 m) (open_fs rfl cz32 rfl (o32 m) open_fs0)))))).map
    (fun p => FT.mk p.1 p.2.1 p.2.2.1 p.2.2.2.1 p.2.2.2.2.1 p.2.2.2.2.2.1) (fun p => ?_) (fun p => ?_)
  · simp [FT.cells]
  · simp only [FT.bulk]
    omega
theorem ftsB_sum : ∀ l : List FT, (l.map FT.bulk).sum = ftsB l
  | [] => rfl
  | t :: l => by have := ftsB_sum l; simp only [List.map_cons, List.sum_cons, ftsB]; omega
theorem o42 (n : Nat) : Opens enc Tryz.prog w spare held n 42 D.cells D.bulk := by
  refine (open_struct Tryz.underlying42 cz42 fun m hm => open_fs rfl cz3 rfl (o3 m) (open_fs rfl cz3 rfl (o3 m) (open_fs rfl cz9 rfl (o9 m) (open_fs rfl cz32 rfl (o32 m) (open_fs rfl cz36 rfl (open_slc (e := 71) Tryz.underlying36 cz71 (by decide) fun k _ => o71 k)
    (open_fs rfl cz40 rfl (o40 m) (open_fs rfl cz9 rfl (o9 m) (open_fs rfl cz40 rfl (o40 m) (open_fs rfl cz40 rfl (o40 m) (open_fs rfl cz9 rfl (o9 m) open_fs0)))))))))).map
    (fun p => D.mk p.1 p.2.1 p.2.2.1 p.2.2.2.1 p.2.2.2.2.1 p.2.2.2.2.2.1 p.2.2.2.2.2.2.1 p.2.2.2.2.2.2.2.1 p.2.2.2.2.2.2.2.2.1 p.2.2.2.2.2.2.2.2.2.1) (fun p => ?_) (fun p => ?_)
  · simp [D.cells]
  · simp only [D.bulk, ftsB_sum]
    omega
theorem declsB_sum : ∀ l : List D, (l.map D.bulk).sum = declsB l
  | [] => rfl
  | t :: l => by have := declsB_sum l; simp only [List.map_cons, List.sum_cons, declsB]; omega
theorem o22 (n : Nat) : Opens enc Tryz.prog w spare held n 22 (fun l : List D => [declsV l]) (fun l => declsB l + 1) :=
  (open_slc Tryz.underlying22 cz42 (by decide) fun m _ => o42 m).map id (fun _ => rfl) (fun l => by simp only [id, declsB_sum]; exact Nat.le_refl _)
/-- The argument, opened. -/
theorem open_decls {v : Value} {d : DataW H} {p : List MemPlace} (hv : v.cells = #[v]) (h : DataW.Trod enc Tryz.prog w 0 spare held 22 v d p) : ∃ l : List D, Rep w (SAll w) noL (declsV l) v ∧ declsB l + 1 ≤ bk d := by
  obtain ⟨n, h⟩ := h
  obtain ⟨l, h1, _, h2⟩ := o22 n _ _ h
  refine ⟨l, ?_, h2⟩
  rw [hv] at h1
  simp only [Reps] at h1
  obtain ⟨y, ys, e, h3, rfl⟩ := h1
  simp at e
  subst e
  exact h3
end
end Go.Ev.Ty
