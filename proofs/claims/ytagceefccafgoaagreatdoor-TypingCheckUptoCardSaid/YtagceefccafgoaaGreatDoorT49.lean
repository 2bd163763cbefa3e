/- The tied card of TypingCheck, where what it reads is of bulk at most 1048576. Condition: that bulk. -/
import Derived.Test.YtagceefccafgoaaGreatDoorTie
import Derived.Test.YtagceefccafgoaaGreatDoorCards
import Derived.SevenTiedAt
import Derived.Test.YtagceefccafgoaaGreatDoorT48
set_option linter.all false
namespace Go.Proofs.YtagceefccafgoaaGreatDoor
theorem typingCheckUpto_plain (f : FuncId) (fn : Func) (hf : Tryz.pinned.checked.prog.funcNamed "sederunt/sederuntlaw24.TypingCheck" = some f) (hfn : Tryz.pinned.checked.prog.funcs[f]? = some fn) :
    false = Tryz.pinned.checked.prog.looks [] ∧ ∀ (j : Nat) t, fn.params[j]? = some t → Tryz.pinned.checked.prog.wantsStandIn t = false := by
  obtain rfl : f = 3 := Option.some.inj ((show Tryz.prog.funcNamed "sederunt/sederuntlaw24.TypingCheck" = some 3 by kernel_rfl).symm.trans hf) |>.symm
  obtain rfl : fn = Tryz.f3 := (Option.some.inj (Tryz.func3.symm.trans hfn)).symm
  refine ⟨by kernel_rfl, fun j t ht => ?_⟩
  rw [Tryz.params3] at ht
  obtain rfl : t = 22 := by simpa using Array.mem_of_getElem? ht
  exact (show Tryz.prog.wantsStandIn 22 = false by kernel_rfl)
/-- THE CARD. -/
theorem typingCheckUpto_card : Rows.TypingCheckUptoCardSaid :=
  Claim7.holds_tied_plain_at .later [] _ _ _ _ typingCheck.saidUpto (fun _ h => by cases h) (by kernel_rfl) (fun _ h => by cases h) typingCheckUpto_row_tie rfl ⟨rfl, rfl⟩ (by kernel_rfl) rfl typingCheckUpto_plain (by kernel_rfl)
#print axioms typingCheckUpto_card
end Go.Proofs.YtagceefccafgoaaGreatDoor
