/- The law ReconKnownCard: LawReconKnownCard. -/
import Derived.Test.YtmefpnklgfhggaaGreatDoorTie
import Derived.Test.YtmefpnklgfhggaaGreatDoorCards
import Derived.SevenTiedAt
import Derived.Test.YtmefpnklgfhggaaGreatDoorZReconKnownCard6
/- The card of ReconKnown: the row's statement, its listed table tied to the program's text. -/
namespace Go.Proofs.YtmefpnklgfhggaaGreatDoor
open Go.RowKit
theorem reconKnownCard_holds : Rows.ReconKnownCardSaid :=
  Claim7.holds_tied_plain_at .later [] [.data] true (true, "55c6dac5384b4c5a8fa4e969d4efa543388039748a928191ea3bb14206192bfe") false
    reconKnown_holds (fun _ h => by cases h) (by kernel_rfl) (fun _ h => by cases h) reconKnown_row_tie rfl ⟨rfl, rfl⟩ (by kernel_rfl) rfl
    (fun f fn hf hfn => by
      obtain rfl : f = 3 := Option.some.inj ((show Tryz.prog.funcNamed "tallyman/tallymanlaw18.ReconKnown" = some 3 by kernel_rfl).symm.trans hf) |>.symm
      obtain rfl : fn = Tryz.f3 := (Option.some.inj (Tryz.func3.symm.trans hfn)).symm
      exact ⟨by kernel_rfl, fun j t ht => by
        rw [Tryz.params3] at ht
        simp at ht⟩)
    (by kernel_rfl)
#print axioms reconKnownCard_holds
end Go.Proofs.YtmefpnklgfhggaaGreatDoor
