/-
  DERIVED. GIVEN WITH THE SEED: THE CARDS: each row of YtmefpnklgfhggaaGreatDoorRows.lean that lists a variable, with what it lists TIED to the program's text (the seventh form; the later family's looks); each row that meets fmt, with fmt's text TOLD by the authors' own Lean function (tested against real Go, not proved from fmt's source: count such statements apart). THE CARD IS WHAT COUNTS. Prove the row's statement (the work); the ties are given (YtmefpnklgfhggaaGreatDoorTie.lean); close each card by the builder's one call (the guide's Derived/Test/ToyasCard.lean, 'card_holds'). Laid BY PROGRAM, IN A SANDBOX (cutbox-door.mjs). By AI agents, Wed Nov 11 2026. No macro, syntax, notation, axiom, sorry.
-/
import Derived.Test.YtmefpnklgfhggaaGreatDoorRows
import GoSem.ClaimSeven
namespace Go.Proofs.YtmefpnklgfhggaaGreatDoor
namespace Rows

/-- THE TIED CARD OF 'tallymanlaw18.ReconKnown'. -/
def reconKnownCard : Claim7 := { stood := { row := reconKnownRow, standIns := [], harness := (true, "55c6dac5384b4c5a8fa4e969d4efa543388039748a928191ea3bb14206192bfe"), looks := false }, kinds := [], alts := [], laidByText := true, laidKinds := [.data], laidTests := true, laidLooks := .later }
def ReconKnownCardSaid : Prop := Claim7.holds Tryz.pinned (.plain (OpenSpec.ofChange reconKnownSpec)) reconKnownCard

/-- THE TIED CARD OF 'tallymanlaw18.ReconPlays'. -/
def reconPlaysCard : Claim7 := { stood := { row := reconPlaysRow, standIns := [], harness := (true, "55c6dac5384b4c5a8fa4e969d4efa543388039748a928191ea3bb14206192bfe"), looks := false }, kinds := [], alts := [], laidByText := true, laidKinds := [.data], laidTests := true, laidLooks := .later }
def ReconPlaysCardSaid : Prop := Claim7.holds Tryz.pinned (.plain (OpenSpec.ofChange reconPlaysSpec)) reconPlaysCard

/-- THE TIED CARD OF 'tallymanlaw18.ReconExact'. -/
def reconExactCard : Claim7 := { stood := { row := reconExactRow, standIns := [], harness := (true, "55c6dac5384b4c5a8fa4e969d4efa543388039748a928191ea3bb14206192bfe"), looks := false }, kinds := [], alts := [], laidByText := true, laidKinds := [.data], laidTests := true, laidLooks := .later }
def ReconExactCardSaid : Prop := Claim7.holds Tryz.pinned (.plain (OpenSpec.ofChange reconExactSpec)) reconExactCard

/-- THE TIED CARD OF 'tallymanlaw18.ReconSelf'. -/
def reconSelfCard : Claim7 := { stood := { row := reconSelfRow, standIns := [], harness := (true, "55c6dac5384b4c5a8fa4e969d4efa543388039748a928191ea3bb14206192bfe"), looks := false }, kinds := [], alts := [], laidByText := true, laidKinds := [.data], laidTests := true, laidLooks := .later }
def ReconSelfCardSaid : Prop := Claim7.holds Tryz.pinned (.plain (OpenSpec.ofChange reconSelfSpec)) reconSelfCard

/-- THE TIED CARD OF 'tallymanlaw18.ReconSwap'. -/
def reconSwapCard : Claim7 := { stood := { row := reconSwapRow, standIns := [], harness := (true, "55c6dac5384b4c5a8fa4e969d4efa543388039748a928191ea3bb14206192bfe"), looks := false }, kinds := [], alts := [], laidByText := true, laidKinds := [.data], laidTests := true, laidLooks := .later }
def ReconSwapCardSaid : Prop := Claim7.holds Tryz.pinned (.plain (OpenSpec.ofChange reconSwapSpec)) reconSwapCard

/-- THE SECOND FORM's CARD OF 'tallymanlaw18.ReconKnown'. -/
def reconKnownUptoCard : Claim7 := { stood := { row := reconKnownUptoRow, standIns := [], harness := (true, "55c6dac5384b4c5a8fa4e969d4efa543388039748a928191ea3bb14206192bfe"), looks := false }, kinds := [], alts := [], laidByText := true, laidKinds := [.data], laidTests := true, laidLooks := .later }
def ReconKnownUptoCardSaid : Prop := Claim7.holds Tryz.pinned (.plain (OpenSpec.upto reconKnownSpec)) reconKnownUptoCard

/-- THE SECOND FORM's CARD OF 'tallymanlaw18.ReconPlays'. -/
def reconPlaysUptoCard : Claim7 := { stood := { row := reconPlaysUptoRow, standIns := [], harness := (true, "55c6dac5384b4c5a8fa4e969d4efa543388039748a928191ea3bb14206192bfe"), looks := false }, kinds := [], alts := [], laidByText := true, laidKinds := [.data], laidTests := true, laidLooks := .later }
def ReconPlaysUptoCardSaid : Prop := Claim7.holds Tryz.pinned (.plain (OpenSpec.upto reconPlaysSpec)) reconPlaysUptoCard

/-- THE SECOND FORM's CARD OF 'tallymanlaw18.ReconExact'. -/
def reconExactUptoCard : Claim7 := { stood := { row := reconExactUptoRow, standIns := [], harness := (true, "55c6dac5384b4c5a8fa4e969d4efa543388039748a928191ea3bb14206192bfe"), looks := false }, kinds := [], alts := [], laidByText := true, laidKinds := [.data], laidTests := true, laidLooks := .later }
def ReconExactUptoCardSaid : Prop := Claim7.holds Tryz.pinned (.plain (OpenSpec.upto reconExactSpec)) reconExactUptoCard

/-- THE SECOND FORM's CARD OF 'tallymanlaw18.ReconSelf'. -/
def reconSelfUptoCard : Claim7 := { stood := { row := reconSelfUptoRow, standIns := [], harness := (true, "55c6dac5384b4c5a8fa4e969d4efa543388039748a928191ea3bb14206192bfe"), looks := false }, kinds := [], alts := [], laidByText := true, laidKinds := [.data], laidTests := true, laidLooks := .later }
def ReconSelfUptoCardSaid : Prop := Claim7.holds Tryz.pinned (.plain (OpenSpec.upto reconSelfSpec)) reconSelfUptoCard

/-- THE SECOND FORM's CARD OF 'tallymanlaw18.ReconSwap'. -/
def reconSwapUptoCard : Claim7 := { stood := { row := reconSwapUptoRow, standIns := [], harness := (true, "55c6dac5384b4c5a8fa4e969d4efa543388039748a928191ea3bb14206192bfe"), looks := false }, kinds := [], alts := [], laidByText := true, laidKinds := [.data], laidTests := true, laidLooks := .later }
def ReconSwapUptoCardSaid : Prop := Claim7.holds Tryz.pinned (.plain (OpenSpec.upto reconSwapSpec)) reconSwapUptoCard
end Rows
end Go.Proofs.YtmefpnklgfhggaaGreatDoor
