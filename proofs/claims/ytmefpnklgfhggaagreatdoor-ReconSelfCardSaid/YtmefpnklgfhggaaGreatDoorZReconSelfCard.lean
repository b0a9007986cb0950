/- The law ReconSelfCard: LawReconSelfCard. -/
import Derived.Test.YtmefpnklgfhggaaGreatDoorTie
import Derived.Test.YtmefpnklgfhggaaGreatDoorCards
import Derived.SevenTiedAt
import Derived.Test.YtmefpnklgfhggaaGreatDoorZReconSelfCardw1
/- The card of ReconSelf: the row's statement, its listed table tied to the program's text. -/
namespace Go.Proofs.YtmefpnklgfhggaaGreatDoor
open Go.RowKit
theorem reconSelfCard_holds : Rows.ReconSelfCardSaid :=
  Claim7.holds_tied_plain_at .later [] [.data] true (true, "55c6dac5384b4c5a8fa4e969d4efa543388039748a928191ea3bb14206192bfe") false
    reconSelf_holds (fun _ h => by cases h) (by kernel_rfl) (fun _ h => by cases h) reconSelf_row_tie rfl ⟨rfl, rfl⟩ (by kernel_rfl) rfl
    (fun f fn hf hfn => by
      obtain rfl : f = 6 := Option.some.inj ((show Tryz.prog.funcNamed "tallyman/tallymanlaw18.ReconSelf" = some 6 by kernel_rfl).symm.trans hf) |>.symm
      obtain rfl : fn = Tryz.f6 := (Option.some.inj (Tryz.func6.symm.trans hfn)).symm
      exact ⟨by kernel_rfl, fun j t ht => by
        rw [Tryz.params6] at ht
        have h3 : t = 33 ∨ t = 31 := by
          rcases j with _ | _ | j
          · left; simpa using ht.symm
          · right; simpa using ht.symm
          · simp at ht
        rcases h3 with rfl | rfl
        · exact (show Tryz.prog.wantsStandIn 33 = false by kernel_rfl)
        · exact (show Tryz.prog.wantsStandIn 31 = false by kernel_rfl)⟩)
    (by kernel_rfl)
#print axioms reconSelfCard_holds
end Go.Proofs.YtmefpnklgfhggaaGreatDoor
