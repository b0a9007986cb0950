/- The law StrataCellsCard: LawStrataCellsCard. -/
import Derived.Test.YtgmeagkolahkoaaDoorTie
import Derived.Test.YtgmeagkolahkoaaDoorCards
import Derived.SevenTiedAt
import Derived.Test.YtgmeagkolahkoaaDoorZStrataCellsCardw1
/- The card of StrataCells: the row's statement, its listed table tied to the program's text. -/
namespace Go.Proofs.YtgmeagkolahkoaaDoor
open Go.RowKit
theorem strataCellsCard_holds : Rows.StrataCellsCardSaid :=
  Claim7.holds_tied_plain_at .later [] [.data] true (true, "dd60c200dbe3c420da68830ea68a9128b63f55f4340122e760a81e6861150c71") false
    strataCells_holds (fun _ h => by cases h) (by kernel_rfl) (fun _ h => by cases h) strataCells_row_tie rfl ⟨rfl, rfl⟩ (by kernel_rfl) rfl
    (fun f fn hf hfn => by
      obtain rfl : f = 6 := Option.some.inj ((show Tryd.prog.funcNamed "tallyman/tallymanlaw17.StrataCells" = some 6 by kernel_rfl).symm.trans hf) |>.symm
      obtain rfl : fn = Tryd.f6 := (Option.some.inj (Tryd.func6.symm.trans hfn)).symm
      exact ⟨by kernel_rfl, fun j t ht => by
        rw [Tryd.params6] at ht
        have h3 : t = 3 := by
          rcases j with _ | _ | j
          · simpa using ht.symm
          · simpa using ht.symm
          · simp at ht
        rcases h3 with rfl
        · exact (show Tryd.prog.wantsStandIn 3 = false by kernel_rfl)⟩)
    (by kernel_rfl)
#print axioms strataCellsCard_holds
end Go.Proofs.YtgmeagkolahkoaaDoor
