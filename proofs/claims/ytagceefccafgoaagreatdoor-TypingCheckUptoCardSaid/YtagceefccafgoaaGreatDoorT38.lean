/- The natives of the reader's program are the program's functions: bytealg. No condition. -/
import Derived.Laws.Externs
import Derived.Lib.Bytealg
import Derived.Test.YtagceefccafgoaaGreatDoorT24
set_option linter.all false
namespace Go.Ev.Ty
open Go.Ev Go.Proofs Go.RowKit
set_option linter.unusedVariables false
variable [Consts]
theorem countB_eq (k : Nat) (hk : k < 256) : ∀ l : List UInt8, countB k l = Lib.countByte l k.toUInt8
  | [] => rfl
  | x :: l => by
    have ih := countB_eq k hk l
    unfold Lib.countByte at ih ⊢
    rw [List.count_cons, ← ih, countB]
    have e : (x.toNat = k) = ((x == k.toUInt8) = true) := by
      apply propext
      rw [beq_iff_eq]
      constructor
      · intro h; subst h; simp
      · intro h; rw [h]; simp; omega
    simp only [e]
    omega
theorem indexB_eq (k : Nat) (hk : k < 256) : ∀ (l : List UInt8) (i : Int), indexB k l i = if Lib.indexByte l k.toUInt8 = -1 then -1 else Lib.indexByte l k.toUInt8 + i
  | [], i => rfl
  | x :: l, i => by
    have ih := indexB_eq k hk l (i + 1)
    have hge := Lib.indexByte_ge l k.toUInt8
    unfold Lib.indexByte indexB
    have e : (x.toNat = k) = ((x == k.toUInt8) = true) := by
      apply propext
      rw [beq_iff_eq]
      constructor
      · intro h; subst h; simp
      · intro h; rw [h]; simp; omega
    simp only [e]
    by_cases h : (x == k.toUInt8) = true
    · simp [h]
    · simp only [h, if_false, Bool.false_eq_true, ih, beq_iff_eq]
      split
      · simp
      · split <;> omega
theorem nat_count : CfAt Tryz.prog 148 natCount := by
  intro us r hg w S vals hom hn0 hS hr
  unfold natCount at hg
  split at hg
  · rename_i s c
    split at hg
    · rename_i hc
      cases hg
      simp only [Reps, Rep] at hr
      obtain ⟨_, _, rfl, rfl, _, _, rfl, rfl, rfl⟩ := hr
      refine .inr ⟨.int .i64 (countB c.toNat s.data.toList), w, ?_, S, Below.refl _ _, fun _ _ h => h, fun _ _ h => .inl h, hS, by simp only [ExpRep, Rep]⟩
      rw [run_callFunc_extern Tryz.func148 (by kernel_rfl) (by kernel_rfl) (by kernel_rfl) (e := Extern.BytealgCount.count) (by kernel_rfl), countB_eq _ hc]
      exact Lib.run_countString s c w ▸ rfl
    · cases hg
  · cases hg
theorem nat_index : CfAt Tryz.prog 159 natIndex := by
  intro us r hg w S vals hom hn0 hS hr
  unfold natIndex at hg
  split at hg
  · rename_i s c
    split at hg
    · rename_i hc
      cases hg
      simp only [Reps, Rep] at hr
      obtain ⟨_, _, rfl, rfl, _, _, rfl, rfl, rfl⟩ := hr
      refine .inr ⟨.int .i64 (indexB c.toNat s.data.toList 0), w, ?_, S, Below.refl _ _, fun _ _ h => h, fun _ _ h => .inl h, hS, by simp only [ExpRep, Rep]⟩
      rw [run_callFunc_extern Tryz.func159 (by kernel_rfl) (by kernel_rfl) (by kernel_rfl) (e := Extern.BytealgIndexByte.indexByte) (by kernel_rfl), indexB_eq _ hc]
      have h := Lib.run_indexByteString (P := Tryz.prog) s c w
      have e : (if Lib.indexByte s.data.toList c.toNat.toUInt8 = -1 then (-1 : Int) else Lib.indexByte s.data.toList c.toNat.toUInt8 + 0) = Lib.indexByte s.data.toList c.toNat.toUInt8 := by split <;> omega
      rw [e]
      exact h ▸ rfl
    · cases hg
  · cases hg
end Go.Ev.Ty
