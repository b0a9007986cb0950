/- The law StrataRawCard: LawStrataRawCard. -/
import Derived.Test.YtgmeagkolahkoaaDoorTie
import Derived.Test.YtgmeagkolahkoaaDoorCards
import Derived.SevenTiedAt
import Derived.Test.YtgmeagkolahkoaaDoorZStrataRawCard6
/- The card of StrataRaw: the row's statement, its listed table tied to the program's text. -/
namespace Go.Proofs.YtgmeagkolahkoaaDoor
open Go.RowKit
theorem strataRawCard_holds : Rows.StrataRawCardSaid :=
  Claim7.holds_tied_plain_at .later [] [.data] true (true, "dd60c200dbe3c420da68830ea68a9128b63f55f4340122e760a81e6861150c71") false
    strataRaw_holds (fun _ h => by cases h) (by kernel_rfl) (fun _ h => by cases h) strataRaw_row_tie rfl ⟨rfl, rfl⟩ (by kernel_rfl) rfl
    (fun f fn hf hfn => by
      obtain rfl : f = 3 := Option.some.inj ((show Tryd.prog.funcNamed "tallyman/tallymanlaw17.StrataRaw" = some 3 by kernel_rfl).symm.trans hf) |>.symm
      obtain rfl : fn = Tryd.f3 := (Option.some.inj (Tryd.func3.symm.trans hfn)).symm
      exact ⟨by kernel_rfl, fun j t ht => by
        rw [Tryd.params3] at ht
        have h3 : t = 22 ∨ t = 23 ∨ t = 3 ∨ t = 27 := by
          rcases j with _ | _ | _ | _ | _ | j
          · left; simpa using ht.symm
          · right; left; simpa using ht.symm
          · right; right; left; simpa using ht.symm
          · right; right; right; simpa using ht.symm
          · right; right; left; simpa using ht.symm
          · simp at ht
        rcases h3 with rfl | rfl | rfl | rfl
        · exact (show Tryd.prog.wantsStandIn 22 = false by kernel_rfl)
        · exact (show Tryd.prog.wantsStandIn 23 = false by kernel_rfl)
        · exact (show Tryd.prog.wantsStandIn 3 = false by kernel_rfl)
        · exact (show Tryd.prog.wantsStandIn 27 = false by kernel_rfl)⟩)
    (by kernel_rfl)
#print axioms strataRawCard_holds
end Go.Proofs.YtgmeagkolahkoaaDoor
