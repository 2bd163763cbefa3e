/- The tied card of LexerWords: the row, its listed tables tied to the program's text. -/
import Derived.Test.YtlgkeeajcbooaaaDoorLaw
import Derived.Test.YtlgkeeajcbooaaaDoorTie
import Derived.Test.YtlgkeeajcbooaaaDoorCards
import Derived.SevenTiedAt
namespace Go.Proofs.YtlgkeeajcbooaaaDoor
theorem lexerWords_card : Rows.LexerWordsCardSaid :=
  Claim7.holds_tied_plain_at .later [] [.data, .data, .data, .data, .pinned] true (true, "1ed63fdba5281ecae604031c62755beb1332fe2cfd6b2c9e0e2408798595bfdd") false
    lexerWords_holds (fun _ h => by cases h) (by kernel_rfl) (fun _ h => by cases h) lexerWords_row_tie rfl ⟨rfl, rfl⟩ (by kernel_rfl) rfl
    (fun f fn hf hfn => by
      obtain rfl : f = 3 := Option.some.inj ((show Tryd.prog.funcNamed "sederunt/sederuntlaw06.LexerWords" = some 3 by kernel_rfl).symm.trans hf) |>.symm
      obtain rfl : fn = Tryd.f3 := (Option.some.inj (Tryd.func3.symm.trans hfn)).symm
      exact ⟨by kernel_rfl, fun j t ht => by
        rw [Tryd.params3] at ht
        have hm : t ∈ [9, 5] := by simpa using Array.mem_of_getElem? ht
        have hall : ([9, 5].all fun u => !Tryd.prog.wantsStandIn u) = true := by kernel_rfl
        exact (show Tryd.prog.wantsStandIn t = false by simpa using List.all_eq_true.1 hall t hm)⟩)
    (by kernel_rfl)
#print axioms lexerWords_card
end Go.Proofs.YtlgkeeajcbooaaaDoor
