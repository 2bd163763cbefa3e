/- The natives of the reader's program are the program's functions: slices.Grow at nil. No condition. -/
import Derived.WalkKit
import Derived.Lib.Walk
import Derived.Lib.SliceRun
import Derived.Lib.AppendZeros
import Derived.Test.YtagceefccafgoaaGreatDoorT40
set_option linter.all false
namespace Go.Ev.Ty
open Go.Ev Go.Proofs Go.RowKit Go.Lib
set_option linter.unusedVariables false
set_option maxHeartbeats 4000000
set_option maxRecDepth 100000
theorem grow_zero (w : World) : Calls Tryz.prog 77 #[.slice none 0 0, .int .i64 0] w fun e w' => e = .returned (.slice none 0 0) ∧ w' = w := by
  go_enter Tryz.func77, Tryz.ntmps77
  go_wp2
  all_goals (go_ret; exact ⟨rfl, rfl⟩)
theorem info9 : (Tryz.prog.info? 9).map (fun i => (i.zero, i.size, i.bytes)) = some (some (.string ⟨#[]⟩), 1, 16) := by kernel_rfl
theorem grow_pos (n : Nat) (h0 : 0 < n) (hn : n ≤ 8589934592) (w : World) : Calls Tryz.prog 77 #[.slice none 0 0, .int .i64 n] w fun e w' => e = .returned (.slice (some ⟨w.heap.size, 0, none⟩) 0 (grownCap w n 0 9)) ∧
    w' = w.drew.alloc (.cells (Builtin.zeroCells (Value.string ⟨#[]⟩).cells n ++ Builtin.zeroCells (Value.string ⟨#[]⟩).cells (grownCap w n 0 9 - n)) 9) := by
  obtain ⟨i, hi, hj⟩ := Option.map_eq_some_iff.1 info9
  simp only [Prod.mk.injEq] at hj
  obtain ⟨hz, hs, hb⟩ := hj
  have hr : ∀ ty, (Builtin.append_ #[32, 3] ty #[.slice none 0 0, .int .i64 (n : Int)]).run Tryz.prog w = .ok (.slice (some ⟨w.heap.size, 0, none⟩) n (grownCap w n 0 9)) (w.drew.alloc (.cells (Builtin.zeroCells (Value.string ⟨#[]⟩).cells n ++ Builtin.zeroCells (Value.string ⟨#[]⟩).cells (grownCap w n 0 9 - n)) 9)) := fun ty =>
    run_append_nil_zeros w 32 3 ty 9 i (.string ⟨#[]⟩) .i64 .i64 Tryz.underlying32 Tryz.underlying3 hi hz n h0 (by omega) (by omega) (by rw [hb]; omega)
  obtain ⟨C, hC⟩ : ∃ C, C = grownCap w n 0 9 := ⟨_, rfl⟩
  have hGn : n ≤ grownCap w n 0 9 := grownCap_ge w _ _ _
  have hG := grownCap_le_maxLen w n 0 9 (by unfold maxLen; omega)
  rw [← hC] at hr hGn hG ⊢
  have hG63 : C ≤ 9223372036854775807 := by unfold maxLen at hG; omega
  have h1 : ¬ ((n : Int) < 0) := by omega
  have h3 : wrap64 ((n : Int) - 0) = (n : Int) := by unfold wrap64; omega
  have h3' : wrap64 (n : Int) = (n : Int) := by unfold wrap64; omega
  have h4 : (n : Int) > 0 := by omega
  have z9 : ∀ w, (Go.sizeOf 9).run Tryz.prog w = .ok 1 w := fun w => by simp [Go.sizeOf, typeInfo, hi, hs]
  clear hC hi
  go_enter Tryz.func77, Tryz.ntmps77
  go_wp2_with (at_builtin; refine Lib.wpList_append_run _ rfl _ _ _ _ rfl _ _ rfl rfl _ _ (hr _) ?_)
  all_goals (go_ret; exact ⟨rfl, rfl⟩)
end Go.Ev.Ty
