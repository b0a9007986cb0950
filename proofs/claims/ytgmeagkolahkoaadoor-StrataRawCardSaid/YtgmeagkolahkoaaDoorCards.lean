/-
  DERIVED. GIVEN WITH THE SEED: THE CARDS: each row of YtgmeagkolahkoaaDoorRows.lean that lists a variable, with what it lists TIED to the program's text (the seventh form; the later family's looks); each row that meets fmt, with fmt's text TOLD by the authors' own Lean function (tested against real Go, not proved from fmt's source: count such statements apart). THE CARD IS WHAT COUNTS. Prove the row's statement (the work); the ties are given (YtgmeagkolahkoaaDoorTie.lean); close each card by the builder's one call (the guide's Derived/Test/ToyasCard.lean, 'card_holds'). Laid BY PROGRAM, IN A SANDBOX (cutbox-door.mjs). By AI agents, Wed Nov 11 2026. No macro, syntax, notation, axiom, sorry.
-/
import Derived.Test.YtgmeagkolahkoaaDoorRows
import GoSem.ClaimSeven
namespace Go.Proofs.YtgmeagkolahkoaaDoor
namespace Rows

/-- THE TIED CARD OF 'tallymanlaw17.StrataRaw'. -/
def strataRawCard : Claim7 := { stood := { row := strataRawRow, standIns := [], harness := (true, "dd60c200dbe3c420da68830ea68a9128b63f55f4340122e760a81e6861150c71"), looks := false }, kinds := [], alts := [], laidByText := true, laidKinds := [.data], laidTests := true, laidLooks := .later }
def StrataRawCardSaid : Prop := Claim7.holds Tryd.pinned (.plain (OpenSpec.ofChange strataRawSpec)) strataRawCard

/-- THE TIED CARD OF 'tallymanlaw17.StrataSwap'. -/
def strataSwapCard : Claim7 := { stood := { row := strataSwapRow, standIns := [], harness := (true, "dd60c200dbe3c420da68830ea68a9128b63f55f4340122e760a81e6861150c71"), looks := false }, kinds := [], alts := [], laidByText := true, laidKinds := [.data], laidTests := true, laidLooks := .later }
def StrataSwapCardSaid : Prop := Claim7.holds Tryd.pinned (.plain (OpenSpec.ofChange strataSwapSpec)) strataSwapCard

/-- THE TIED CARD OF 'tallymanlaw17.StrataKnown'. -/
def strataKnownCard : Claim7 := { stood := { row := strataKnownRow, standIns := [], harness := (true, "dd60c200dbe3c420da68830ea68a9128b63f55f4340122e760a81e6861150c71"), looks := false }, kinds := [], alts := [], laidByText := true, laidKinds := [.data], laidTests := true, laidLooks := .later }
def StrataKnownCardSaid : Prop := Claim7.holds Tryd.pinned (.plain (OpenSpec.ofChange strataKnownSpec)) strataKnownCard

/-- THE TIED CARD OF 'tallymanlaw17.StrataCells'. -/
def strataCellsCard : Claim7 := { stood := { row := strataCellsRow, standIns := [], harness := (true, "dd60c200dbe3c420da68830ea68a9128b63f55f4340122e760a81e6861150c71"), looks := false }, kinds := [], alts := [], laidByText := true, laidKinds := [.data], laidTests := true, laidLooks := .later }
def StrataCellsCardSaid : Prop := Claim7.holds Tryd.pinned (.plain (OpenSpec.ofChange strataCellsSpec)) strataCellsCard

/-- THE TIED CARD OF 'tallymanlaw17.StrataSelf'. -/
def strataSelfCard : Claim7 := { stood := { row := strataSelfRow, standIns := [], harness := (true, "dd60c200dbe3c420da68830ea68a9128b63f55f4340122e760a81e6861150c71"), looks := false }, kinds := [], alts := [], laidByText := true, laidKinds := [.data], laidTests := true, laidLooks := .later }
def StrataSelfCardSaid : Prop := Claim7.holds Tryd.pinned (.plain (OpenSpec.ofChange strataSelfSpec)) strataSelfCard

/-- THE SECOND FORM's CARD OF 'tallymanlaw17.StrataRaw'. -/
def strataRawUptoCard : Claim7 := { stood := { row := strataRawUptoRow, standIns := [], harness := (true, "dd60c200dbe3c420da68830ea68a9128b63f55f4340122e760a81e6861150c71"), looks := false }, kinds := [], alts := [], laidByText := true, laidKinds := [.data], laidTests := true, laidLooks := .later }
def StrataRawUptoCardSaid : Prop := Claim7.holds Tryd.pinned (.plain (OpenSpec.upto strataRawSpec)) strataRawUptoCard

/-- THE SECOND FORM's CARD OF 'tallymanlaw17.StrataSwap'. -/
def strataSwapUptoCard : Claim7 := { stood := { row := strataSwapUptoRow, standIns := [], harness := (true, "dd60c200dbe3c420da68830ea68a9128b63f55f4340122e760a81e6861150c71"), looks := false }, kinds := [], alts := [], laidByText := true, laidKinds := [.data], laidTests := true, laidLooks := .later }
def StrataSwapUptoCardSaid : Prop := Claim7.holds Tryd.pinned (.plain (OpenSpec.upto strataSwapSpec)) strataSwapUptoCard

/-- THE SECOND FORM's CARD OF 'tallymanlaw17.StrataKnown'. -/
def strataKnownUptoCard : Claim7 := { stood := { row := strataKnownUptoRow, standIns := [], harness := (true, "dd60c200dbe3c420da68830ea68a9128b63f55f4340122e760a81e6861150c71"), looks := false }, kinds := [], alts := [], laidByText := true, laidKinds := [.data], laidTests := true, laidLooks := .later }
def StrataKnownUptoCardSaid : Prop := Claim7.holds Tryd.pinned (.plain (OpenSpec.upto strataKnownSpec)) strataKnownUptoCard

/-- THE SECOND FORM's CARD OF 'tallymanlaw17.StrataCells'. -/
def strataCellsUptoCard : Claim7 := { stood := { row := strataCellsUptoRow, standIns := [], harness := (true, "dd60c200dbe3c420da68830ea68a9128b63f55f4340122e760a81e6861150c71"), looks := false }, kinds := [], alts := [], laidByText := true, laidKinds := [.data], laidTests := true, laidLooks := .later }
def StrataCellsUptoCardSaid : Prop := Claim7.holds Tryd.pinned (.plain (OpenSpec.upto strataCellsSpec)) strataCellsUptoCard

/-- THE SECOND FORM's CARD OF 'tallymanlaw17.StrataSelf'. -/
def strataSelfUptoCard : Claim7 := { stood := { row := strataSelfUptoRow, standIns := [], harness := (true, "dd60c200dbe3c420da68830ea68a9128b63f55f4340122e760a81e6861150c71"), looks := false }, kinds := [], alts := [], laidByText := true, laidKinds := [.data], laidTests := true, laidLooks := .later }
def StrataSelfUptoCardSaid : Prop := Claim7.holds Tryd.pinned (.plain (OpenSpec.upto strataSelfSpec)) strataSelfUptoCard
end Rows
end Go.Proofs.YtgmeagkolahkoaaDoor
