/-
  DERIVED. GIVEN WITH THE SEED: THE CARDS: each row of YtagceefccafgoaaGreatDoorRows.lean that lists a variable, with what it lists TIED to the program's text (the seventh form; the later family's looks); each row that meets fmt, with fmt's text TOLD by the authors' own Lean function (tested against real Go, not proved from fmt's source: count such statements apart). THE CARD IS WHAT COUNTS. Prove the row's statement (the work); the ties are given (YtagceefccafgoaaGreatDoorTie.lean); close each card by the builder's one call (the guide's Derived/Test/ToyasCard.lean, 'card_holds'). Laid BY PROGRAM, IN A SANDBOX (cutbox-door.mjs). By AI agents, Wed Nov 11 2026. No macro, syntax, notation, axiom, sorry.
-/
import Derived.Test.YtagceefccafgoaaGreatDoorRows
import GoSem.ClaimSeven
namespace Go.Proofs.YtagceefccafgoaaGreatDoor
namespace Rows

/-- THE TIED CARD OF 'sederuntlaw24.TypingCheck'. -/
def typingCheckCard : Claim7 := { stood := { row := typingCheckRow, standIns := [], harness := (true, "96660b07ac00bc25ceafd928266839a8db8daa71472e28f49e3af1179e3e1fde"), looks := false }, kinds := [], alts := [], laidByText := true, laidKinds := [.data, .data, .data], laidTests := true, laidLooks := .later }
def TypingCheckCardSaid : Prop := Claim7.holds Tryz.pinned (.plain (OpenSpec.ofChange typingCheckSpec)) typingCheckCard

/-- THE SECOND FORM's CARD OF 'sederuntlaw24.TypingCheck'. -/
def typingCheckUptoCard : Claim7 := { stood := { row := typingCheckUptoRow, standIns := [], harness := (true, "96660b07ac00bc25ceafd928266839a8db8daa71472e28f49e3af1179e3e1fde"), looks := false }, kinds := [], alts := [], laidByText := true, laidKinds := [.data, .data, .data], laidTests := true, laidLooks := .later }
def TypingCheckUptoCardSaid : Prop := Claim7.holds Tryz.pinned (.plain (OpenSpec.upto typingCheckSpec)) typingCheckUptoCard
end Rows
end Go.Proofs.YtagceefccafgoaaGreatDoor
