/- The card of PlaceSays: the row's statement, its listed table tied to the program's text. -/
import Derived.Test.YtofekkhhminkhaaDoorLawPlaceSays
import Derived.Test.YtofekkhhminkhaaDoorTie
import Derived.Test.YtofekkhhminkhaaDoorCards
import Derived.SevenTiedAt
namespace Go.Proofs.YtofekkhhminkhaaDoor
open Go.RowKit
theorem placeSaysCard_holds : Rows.PlaceSaysCardSaid :=
  Claim7.holds_tied_plain_at .later [] [.data] true (true, "febf3718af90a167caa3c97b274c30b0dfe7d44f4dc42791e39c688774d1a227") false
    placeSays_holds (fun _ h => by cases h) (by kernel_rfl) (fun _ h => by cases h) placeSays_row_tie rfl ⟨rfl, rfl⟩ (by kernel_rfl) rfl
    (fun f fn hf hfn => by
      obtain rfl : f = 3 := Option.some.inj ((show Tryd.prog.funcNamed "tallyman/tallymanlaw14.PlaceSays" = some 3 by kernel_rfl).symm.trans hf) |>.symm
      obtain rfl : fn = Tryd.f3 := (Option.some.inj (Tryd.func3.symm.trans hfn)).symm
      exact ⟨by kernel_rfl, fun j t ht => by
        rw [Tryd.params3] at ht
        have h3 : t = 22 ∨ t = 3 ∨ t = 23 := by
          rcases j with _ | _ | _ | j
          · left; simpa using ht.symm
          · right; left; simpa using ht.symm
          · right; right; simpa using ht.symm
          · simp at ht
        rcases h3 with rfl | rfl | rfl
        · exact (show Tryd.prog.wantsStandIn 22 = false by kernel_rfl)
        · exact (show Tryd.prog.wantsStandIn 3 = false by kernel_rfl)
        · exact (show Tryd.prog.wantsStandIn 23 = false by kernel_rfl)⟩)
    (by kernel_rfl)
#print axioms placeSaysCard_holds
end Go.Proofs.YtofekkhhminkhaaDoor
