/- The law StrataKnownCard: LawStrataKnownCard. -/
import Derived.Test.YtgmeagkolahkoaaDoorTie
import Derived.Test.YtgmeagkolahkoaaDoorCards
import Derived.SevenTiedAt
import Derived.Test.YtgmeagkolahkoaaDoorZStrataKnownCard4
/- The card of StrataKnown: the row's statement, its listed table tied to the program's text. -/
namespace Go.Proofs.YtgmeagkolahkoaaDoor
open Go.RowKit
theorem strataKnownCard_holds : Rows.StrataKnownCardSaid :=
  Claim7.holds_tied_plain_at .later [] [.data] true (true, "dd60c200dbe3c420da68830ea68a9128b63f55f4340122e760a81e6861150c71") false
    strataKnown_holds (fun _ h => by cases h) (by kernel_rfl) (fun _ h => by cases h) strataKnown_row_tie rfl ⟨rfl, rfl⟩ (by kernel_rfl) rfl
    (fun f fn hf hfn => by
      obtain rfl : f = 5 := Option.some.inj ((show Tryd.prog.funcNamed "tallyman/tallymanlaw17.StrataKnown" = some 5 by kernel_rfl).symm.trans hf) |>.symm
      obtain rfl : fn = Tryd.f5 := (Option.some.inj (Tryd.func5.symm.trans hfn)).symm
      exact ⟨by kernel_rfl, fun j t ht => by
        rw [Tryd.params5] at ht
        simp at ht⟩)
    (by kernel_rfl)
#print axioms strataKnownCard_holds
end Go.Proofs.YtgmeagkolahkoaaDoor
