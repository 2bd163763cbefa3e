/- The law TypingCheck, where what it reads is of bulk at most 1048576: the row. Condition: that bulk; the listed tables read as the program's text lays them. -/
import Derived.Test.YtagceefccafgoaaGreatDoorRows
import Derived.WalkKit
import Derived.ProofKit
import Derived.OpenShut
import Derived.Carry
import Derived.Lay
import Derived.LaidMore
import Derived.Deep.DeepHandedRow
import Derived.Lib.LaidTab
import Derived.Stop.LaidErr
import Derived.Stop.Joined
import Derived.Test.YtagceefccafgoaaGreatDoorT47
set_option linter.all false
namespace Go.Proofs.YtagceefccafgoaaGreatDoor.typingCheck
open Go.ChangeShapes Go.WideShapes Go.ChangeAt Go.RowKit Go.Ev Go.Ev.Ty
set_option linter.unusedVariables false
theorem own : ownKnob Tryz.prog.godebug = none := by kernel_rfl
theorem gPow : Tryz.prog.globalNamed "internal/strconv.uint64pow10" = some 1 := by kernel_rfl
/-- What is known of the variables: the table of the powers of ten. -/
instance consts : Consts where
  om w := Lib.TabIs Tryz.prog w "internal/strconv.uint64pow10" .u64 Lib.pow10Tab
  n0 := 2
  keep := by
    intro w w' h hb
    have e := hb.block 1 (by omega)
    unfold Lib.TabIs World.var? at h ⊢
    rw [gPow] at h ⊢
    simp only [Option.bind_some] at h ⊢
    rw [e]
    exact h
theorem powTab : PowTab := fun _ h => h
mutual
theorem bk_eq {H : Type} : ∀ d : DataW H, Rows.uptoBulk d = bk d
  | .lit (.string b) => rfl
  | .lit (.bool _) => rfl
  | .lit (.int _ _) => rfl
  | .lit (.float _ _) => rfl
  | .lit .nil => rfl
  | .nil => rfl
  | .ptr d => by simp [Rows.uptoBulk, bk, bk_eq d]
  | .slice l s => by simp [Rows.uptoBulk, bk, bkAll_eq l, bkAll_eq s]
  | .agg l => by simp [Rows.uptoBulk, bk, bkAll_eq l]
  | .iface _ d => by simp [Rows.uptoBulk, bk, bk_eq d]
  | .map l => by simp [Rows.uptoBulk, bk, bkEntries_eq l]
  | .held _ => rfl
theorem bkAll_eq {H : Type} : ∀ l : List (DataW H), Rows.uptoBulkAll l = bkAll l
  | [] => rfl
  | d :: l => by simp [Rows.uptoBulkAll, bkAll, bk_eq d, bkAll_eq l]
theorem bkEntries_eq {H : Type} : ∀ l : List (Lit × DataW H), Rows.uptoBulkEntries l = bkEntries l
  | [] => rfl
  | x :: l => by simp [Rows.uptoBulkEntries, bkEntries, bkEntry_eq x, bkEntries_eq l]
theorem bkEntry_eq {H : Type} : ∀ x : Lit × DataW H, Rows.uptoBulkEntry x = bkEntry x
  | (.string _, d) => by simp [Rows.uptoBulkEntry, bkEntry, bk_eq d]
  | (.bool _, d) => by simp [Rows.uptoBulkEntry, bkEntry, bk_eq d]
  | (.int _ _, d) => by simp [Rows.uptoBulkEntry, bkEntry, bk_eq d]
  | (.float _ _, d) => by simp [Rows.uptoBulkEntry, bkEntry, bk_eq d]
  | (.nil, d) => by simp [Rows.uptoBulkEntry, bkEntry, bk_eq d]
end
theorem table {W : World} (h : laidMetH Tryz.prog Rows.typingCheckUptoRow.laid W) : Lib.TabIs Tryz.prog W "internal/strconv.uint64pow10" .u64 Lib.pow10Tab := by
  rw [MakeChecks.laidMetH_plain _ _ _ (by kernel_rfl)] at h
  have h2 : laidMet Tryz.prog (("internal/strconv.uint64pow10", Lib.tabData .u64 Lib.pow10Tab) :: []) W := h.tail.tail
  exact Lib.tabIs_of_head (g := 1) (t := 175) (e := 168) (n := 20) gPow (by kernel_rfl) (by kernel_rfl) (by kernel_rfl) (by kernel_rfl) (by kernel_rfl) h2
theorem laidOut : laidOutB Tryz.prog = true := by kernel_rfl
set_option maxRecDepth 100000 in
/-- What the reader gives, for every argument of that bulk and every world that holds the table. -/
theorem contract (H : Type) (enc : TypeId × Value → H) (W : World) (base : Nat) (args : Array Value) (ds gs : List (DataW H)) (before : List MemPlace)
    (hval : ∀ (j : Nat) t v, Tryz.f3.params[j]? = some t → args[j]? = some v → Value.okWide Tryz.prog W .any base t v)
    (hW : DataW.Whole enc Tryz.prog Tryz.f3.params.toList Rows.typingCheckSpec.vars false W args.toList ds gs before) (hk : Rows.uptoSmall H (ds ++ gs) = true) (hL : laidMetH Tryz.prog Rows.typingCheckUptoRow.laid W) :
    Calls Tryz.prog 3 args W fun e W' => ∃ v, e = .returned v ∧ Rows.typingCheckSpec.post enc Tryz.prog Tryz.f3 false true false false W args v W' := by
  have hlt := hW.lt
  have hW' := hW
  obtain ⟨p, q, hA0, hV, rfl, hfz, hnd⟩ := hW
  have hA : DataW.TrodAll enc Tryz.prog W 0 (fun _ => true) true Tryz.f3.params.toList args.toList ds p := hA0
  rw [Tryz.params3] at hA hval
  obtain ⟨v0, vs0, d0, ds0, p0, q0, hargs, rfl, rfl, h0, r0⟩ := trodAll_cons hA
  obtain ⟨rfl, rfl, rfl⟩ := trodAll_nil r0
  obtain rfl : args = #[v0] := by cases args; simp_all
  obtain ⟨rfl, rfl⟩ := trodVars_none hV
  clear hA0 hA hargs
  have hsl : v0.cells = #[v0] := by
    have h1 := hval 0 22 v0 rfl rfl
    unfold Value.okWide at h1
    rw [Tryz.underlying22] at h1
    simp only at h1
    unfold Cell.okWide at h1
    rw [Tryz.underlying22] at h1
    cases v0 <;> first
      | rfl
      | (exfalso; simp [Cell.ok, Tryz.underlying22] at h1)
  obtain ⟨l, hrep, hb⟩ := open_decls hsl h0
  have hbulk : declsB l ≤ 1048576 := by
    have h := of_decide_eq_true hk
    rw [bkAll_eq] at h
    simp only [List.cons_append, List.nil_append, bkAll] at h
    omega
  have ht : Consts.om W := table hL
  have hn : Consts.n0 ≤ W.heap.size := by
    have c := (table hL).cell gPow 0 (by decide)
    show 2 ≤ W.heap.size
    rcases Nat.lt_or_ge 1 W.heap.size with h | h
    · exact h
    · unfold World.cell? at c; simp [Array.getElem?_eq_none h] at c
  refine (law_calls powTab l hbulk W (SAll W) v0 ht hn (fun r o h => h) hrep).mono fun e W' ⟨he, hbl⟩ => ?_
  subst he
  have hb0 : ∀ x ∈ p0, x.block < W.heap.size := fun x hx => by simpa using hlt x (by simp [hx])
  exact ⟨_, rfl, _, _, _, [], _, [], hW', trodAll_mk1 (shut_bool Tryz.underlying4 _), trodAll_cons_mk (Below.trod laidOut (by kernel_rfl) (of_decide_eq_true (by kernel_rfl)) h0 hbl hb0) trodAll_mk0, rfl, hbl.frame _, fun h => by cases h⟩
theorem reads (os : Os) {H : Type} (enc : TypeId × Value → H) : ∃ places, DataW.whole enc Tryz.prog ((World.laidAll Tryz.prog os Rows.typingCheckUptoRow.laid).forCall (fun _ _ => 0) ⟨#[], #[.slice none 0 0], []⟩).memory Tryz.f3.params.toList Rows.typingCheckSpec.vars false #[Value.slice none 0 0].toList 8 = some ([.nil], [], places) :=
  ⟨[], by kernel_rfl⟩
set_option maxRecDepth 100000 in
theorem lifted (os : Os) (started : os.Started) (H : Type) (enc : TypeId × Value → H) (F : Stop.Interp) :
    ReturnsInHanded {} Tryz.checked os 3 .any ((Rows.OpenSpec.upto Rows.typingCheckSpec).preRow enc Tryz.prog Tryz.f3 Rows.typingCheckUptoRow.domain false Rows.typingCheckUptoRow.laid) (((Rows.OpenSpec.upto Rows.typingCheckSpec).at F).post enc Tryz.prog Tryz.f3 false true false false) := by
  obtain ⟨places, hx⟩ := reads os enc
  refine returnsInHanded_of_row (C := Tryz.checked) (s := Rows.OpenSpec.upto Rows.typingCheckSpec) own started (by kernel_rfl) Tryz.func3
    (witness_row_at (enc := enc) (C := Tryz.checked) false (World.laidAll Tryz.prog os Rows.typingCheckUptoRow.laid) #[.slice none 0 0] (World.laidAll_os _ _ _) (by kernel_rfl) (by kernel_rfl) (by kernel_rfl)
      (OpenSpec.preRow_of_cond 8 hx (by kernel_rfl) (fun k hk => by cases hk; kernel_rfl) (by kernel_rfl) (by rw [MakeChecks.laidMetH_plain _ _ _ (by kernel_rfl)]; exact laidMet_laidAll _ (by kernel_rfl) (by kernel_rfl)))) ?_
  intro W base args ds gs before hval hW _ hk _ hL _ _
  exact contract H enc W base args ds gs before hval hW (hk _ rfl) hL
theorem saidUpto : Rows.TypingCheckUptoSaid :=
  OpenClaim.holds_of_cond 3 Tryz.f3 rfl rfl rfl rfl rfl rfl rfl ⟨rfl, rfl, rfl, rfl, rfl⟩ rfl rfl rfl rfl rfl (by kernel_rfl) Tryz.func3 (by kernel_rfl)
    (of_decide_eq_true (by kernel_rfl)) (by unfold Func.isWrapper; first | (rw [if_pos (by decide +kernel)]; kernel_rfl) | (rw [if_neg (by decide +kernel)]; exact ⟨rfl, rfl⟩))
    (fun os started H enc _ F => by rw [OpenClaim.pre_eq_preRow]; exact lifted os started H enc F)
#print axioms saidUpto
end Go.Proofs.YtagceefccafgoaaGreatDoor.typingCheck
