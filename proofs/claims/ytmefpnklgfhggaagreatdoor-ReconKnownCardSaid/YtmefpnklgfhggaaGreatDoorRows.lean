/-
  NARROWER THAN 'FOR EVERY INPUT', by the rows' own cells (each row's printed sentence says how): ReconKnown: laid · ReconPlays: laid · ReconExact: laid · ReconSelf: laid · ReconSwap: laid.
  DERIVED. THE GIVEN ROWS OF THIS SEAT. 5 by the template 'for every input the law returns true; each argument reads behind the call as it read before'; 0 by the template 'total and deterministic' (their statements: YtmefpnklgfhggaaGreatDoorTotals.lean).
  GIVEN WITH THE SEED: the statements are not yours to turn. If you find one false, say at which input.
  Laid BY PROGRAM, IN A SANDBOX (cutbox-rows.mjs): the forced cells as the released guide's own fill.sh prints them over the translation 20d9731eb9b9147f… (all of the seat's roots in one cut). By AI agents, Wed Nov 11 2026. No macro, syntax, notation, axiom, sorry.
-/
import Derived.Test.YtmefpnklgfhggaaGreatDoorChecked
import GoSem.Claim
import GoSem.ClaimJoined
import GoSem.ClaimMapViews
import Derived.JoinedTies
import Derived.KernelRfl
namespace Go.Proofs.YtmefpnklgfhggaaGreatDoor
/- THE CELL 'sum', in the pinned program and in every row, IS THE sha256 OF THE DUMP (.gsa) THAT YtmefpnklgfhggaaGreatDoorProg.lean LOADS. Nothing in Lean hashes anything: it is a label: what it is worth is what the hold of that sum in a sandbox is worth. -/
noncomputable def Tryz.pinned : Pinned := { name := "ytmefpnklgfhggaagreatdoor", sum := "20d9731eb9b9147ff72772dd5ed1854d0faf69f0659848d79dc3fd8156bcadec", checked := Tryz.checked }
namespace Rows
def none {H : Type} : Left H := { results := [], args := [] }

/- WHAT THE LISTED PACKAGE-LEVEL VARIABLES READ AS WHEN THE CALL BEGINS. Each datum BY PROGRAM (the guide's laid-datum.mjs) off the statement by which the dump's own 'gosem.cut.vars' lays the variable. In a bare row this is a premise. The card (YtmefpnklgfhggaaGreatDoorCards.lean) ties it to the program's text. -/
def laid_math_bits_deBruijn64tab {H : Type} : DataW H := .agg [.lit (.int .u8 0), .lit (.int .u8 1), .lit (.int .u8 56), .lit (.int .u8 2), .lit (.int .u8 57), .lit (.int .u8 49), .lit (.int .u8 28), .lit (.int .u8 3), .lit (.int .u8 61), .lit (.int .u8 58), .lit (.int .u8 42), .lit (.int .u8 50), .lit (.int .u8 38), .lit (.int .u8 29), .lit (.int .u8 17), .lit (.int .u8 4), .lit (.int .u8 62), .lit (.int .u8 47), .lit (.int .u8 59), .lit (.int .u8 36), .lit (.int .u8 45), .lit (.int .u8 43), .lit (.int .u8 51), .lit (.int .u8 22), .lit (.int .u8 53), .lit (.int .u8 39), .lit (.int .u8 33), .lit (.int .u8 30), .lit (.int .u8 24), .lit (.int .u8 18), .lit (.int .u8 12), .lit (.int .u8 5), .lit (.int .u8 63), .lit (.int .u8 55), .lit (.int .u8 48), .lit (.int .u8 27), .lit (.int .u8 60), .lit (.int .u8 41), .lit (.int .u8 37), .lit (.int .u8 16), .lit (.int .u8 46), .lit (.int .u8 35), .lit (.int .u8 44), .lit (.int .u8 21), .lit (.int .u8 52), .lit (.int .u8 32), .lit (.int .u8 23), .lit (.int .u8 11), .lit (.int .u8 54), .lit (.int .u8 26), .lit (.int .u8 40), .lit (.int .u8 15), .lit (.int .u8 34), .lit (.int .u8 20), .lit (.int .u8 31), .lit (.int .u8 10), .lit (.int .u8 25), .lit (.int .u8 14), .lit (.int .u8 19), .lit (.int .u8 9), .lit (.int .u8 13), .lit (.int .u8 8), .lit (.int .u8 7), .lit (.int .u8 6)]

/-- 'tallymanlaw18.ReconKnown': WHATEVER THE INPUT: true; the input reads as it did. -/
def reconKnownSpec : ChangeSpec := { name := "reconKnown", fn := fun _ => fun
  | [] => { results := [.lit (.bool true)], args := [] }
  | _ => none }
def reconKnownRow : OpenClaim := { program := "ytmefpnklgfhggaagreatdoor", sum := "20d9731eb9b9147ff72772dd5ed1854d0faf69f0659848d79dc3fd8156bcadec", func := "tallyman/tallymanlaw18.ReconKnown", spec := "reconKnown", inPlace := ["internal/bytealg.MakeNoZero", "internal/bytealg.Compare"], unfollowed := true, recurses := true, named := ["math/bits.deBruijn64tab"], plainKeys := false, apart := false, laid := [("math/bits.deBruijn64tab", laid_math_bits_deBruijn64tab)] }
def ReconKnownSaid : Prop := reconKnownRow.holds Tryz.pinned (OpenSpec.ofChange reconKnownSpec)

/-- ITS FALSE NEIGHBOUR: 'it returns false'. Refute it at one input. -/
def reconKnownWrong : ChangeSpec := { name := "reconKnown", fn := fun _ => fun
  | [] => { results := [.lit (.bool false)], args := [] }
  | _ => none }
def ReconKnownWrongFalsely : Prop := reconKnownRow.holds Tryz.pinned (OpenSpec.ofChange reconKnownWrong)

/-- 'tallymanlaw18.ReconPlays': WHATEVER THE INPUT: true; the input reads as it did. -/
def reconPlaysSpec : ChangeSpec := { name := "reconPlays", fn := fun _ => fun
  | [d1, d2, d3, d4] => { results := [.lit (.bool true)], args := [d1, d2, d3, d4] }
  | _ => none }
def reconPlaysRow : OpenClaim := { program := "ytmefpnklgfhggaagreatdoor", sum := "20d9731eb9b9147ff72772dd5ed1854d0faf69f0659848d79dc3fd8156bcadec", func := "tallyman/tallymanlaw18.ReconPlays", spec := "reconPlays", inPlace := ["internal/bytealg.MakeNoZero", "internal/bytealg.Compare"], unfollowed := true, recurses := true, named := ["math/bits.deBruijn64tab"], plainKeys := false, apart := false, laid := [("math/bits.deBruijn64tab", laid_math_bits_deBruijn64tab)] }
def ReconPlaysSaid : Prop := reconPlaysRow.holds Tryz.pinned (OpenSpec.ofChange reconPlaysSpec)

/-- ITS FALSE NEIGHBOUR: 'it returns false'. Refute it at one input. -/
def reconPlaysWrong : ChangeSpec := { name := "reconPlays", fn := fun _ => fun
  | [d1, d2, d3, d4] => { results := [.lit (.bool false)], args := [d1, d2, d3, d4] }
  | _ => none }
def ReconPlaysWrongFalsely : Prop := reconPlaysRow.holds Tryz.pinned (OpenSpec.ofChange reconPlaysWrong)

/-- 'tallymanlaw18.ReconExact': WHATEVER THE INPUT: true; the input reads as it did. -/
def reconExactSpec : ChangeSpec := { name := "reconExact", fn := fun _ => fun
  | [d1, d2, d3] => { results := [.lit (.bool true)], args := [d1, d2, d3] }
  | _ => none }
def reconExactRow : OpenClaim := { program := "ytmefpnklgfhggaagreatdoor", sum := "20d9731eb9b9147ff72772dd5ed1854d0faf69f0659848d79dc3fd8156bcadec", func := "tallyman/tallymanlaw18.ReconExact", spec := "reconExact", inPlace := ["internal/bytealg.MakeNoZero", "internal/bytealg.Compare"], unfollowed := true, recurses := true, named := ["math/bits.deBruijn64tab"], plainKeys := false, apart := false, laid := [("math/bits.deBruijn64tab", laid_math_bits_deBruijn64tab)] }
def ReconExactSaid : Prop := reconExactRow.holds Tryz.pinned (OpenSpec.ofChange reconExactSpec)

/-- ITS FALSE NEIGHBOUR: 'it returns false'. Refute it at one input. -/
def reconExactWrong : ChangeSpec := { name := "reconExact", fn := fun _ => fun
  | [d1, d2, d3] => { results := [.lit (.bool false)], args := [d1, d2, d3] }
  | _ => none }
def ReconExactWrongFalsely : Prop := reconExactRow.holds Tryz.pinned (OpenSpec.ofChange reconExactWrong)

/-- 'tallymanlaw18.ReconSelf': WHATEVER THE INPUT: true; the input reads as it did. -/
def reconSelfSpec : ChangeSpec := { name := "reconSelf", fn := fun _ => fun
  | [d1, d2] => { results := [.lit (.bool true)], args := [d1, d2] }
  | _ => none }
def reconSelfRow : OpenClaim := { program := "ytmefpnklgfhggaagreatdoor", sum := "20d9731eb9b9147ff72772dd5ed1854d0faf69f0659848d79dc3fd8156bcadec", func := "tallyman/tallymanlaw18.ReconSelf", spec := "reconSelf", inPlace := ["internal/bytealg.MakeNoZero", "internal/bytealg.Compare"], unfollowed := true, recurses := true, named := ["math/bits.deBruijn64tab"], plainKeys := false, apart := false, laid := [("math/bits.deBruijn64tab", laid_math_bits_deBruijn64tab)] }
def ReconSelfSaid : Prop := reconSelfRow.holds Tryz.pinned (OpenSpec.ofChange reconSelfSpec)

/-- ITS FALSE NEIGHBOUR: 'it returns false'. Refute it at one input. -/
def reconSelfWrong : ChangeSpec := { name := "reconSelf", fn := fun _ => fun
  | [d1, d2] => { results := [.lit (.bool false)], args := [d1, d2] }
  | _ => none }
def ReconSelfWrongFalsely : Prop := reconSelfRow.holds Tryz.pinned (OpenSpec.ofChange reconSelfWrong)

/-- 'tallymanlaw18.ReconSwap': WHATEVER THE INPUT: true; the input reads as it did. -/
def reconSwapSpec : ChangeSpec := { name := "reconSwap", fn := fun _ => fun
  | [d1, d2, d3, d4] => { results := [.lit (.bool true)], args := [d1, d2, d3, d4] }
  | _ => none }
def reconSwapRow : OpenClaim := { program := "ytmefpnklgfhggaagreatdoor", sum := "20d9731eb9b9147ff72772dd5ed1854d0faf69f0659848d79dc3fd8156bcadec", func := "tallyman/tallymanlaw18.ReconSwap", spec := "reconSwap", inPlace := ["internal/bytealg.MakeNoZero", "internal/bytealg.Compare"], unfollowed := true, recurses := true, named := ["math/bits.deBruijn64tab"], plainKeys := false, apart := false, laid := [("math/bits.deBruijn64tab", laid_math_bits_deBruijn64tab)] }
def ReconSwapSaid : Prop := reconSwapRow.holds Tryz.pinned (OpenSpec.ofChange reconSwapSpec)

/-- ITS FALSE NEIGHBOUR: 'it returns false'. Refute it at one input. -/
def reconSwapWrong : ChangeSpec := { name := "reconSwap", fn := fun _ => fun
  | [d1, d2, d3, d4] => { results := [.lit (.bool false)], args := [d1, d2, d3, d4] }
  | _ => none }
def ReconSwapWrongFalsely : Prop := reconSwapRow.holds Tryz.pinned (OpenSpec.ofChange reconSwapWrong)

/- THE SECOND FORM. 'bulk': how many values and letters a reading holds, each counted each time it is reached (what is shared counts as often as it is met; a slice's spare places count too). A statement '..UptoSaid' is the law's where the arguments, and the package variables that the reading takes, are together of bulk at most 1048576: NARROWER than '..Said'. Prove '..Said' where nothing that the law and all that it calls make is longer than what came in: it says more and counts as full. Else prove '..UptoSaid'. A law counts once. -/
mutual
def uptoBulk {H : Type} : DataW H → Nat
  | .lit (.string bytes) => bytes.length + 1
  | .lit _ => 1
  | .nil => 1
  | .ptr d => uptoBulk d + 1
  | .slice elems spare => uptoBulkAll elems + uptoBulkAll spare + 1
  | .agg parts => uptoBulkAll parts + 1
  | .iface _ d => uptoBulk d + 1
  | .map entries => uptoBulkEntries entries + 1
  | .held _ => 1
def uptoBulkAll {H : Type} : List (DataW H) → Nat
  | [] => 0
  | d :: r => uptoBulk d + uptoBulkAll r
def uptoBulkEntries {H : Type} : List (Lit × DataW H) → Nat
  | [] => 0
  | x :: r => uptoBulkEntry x + uptoBulkEntries r
def uptoBulkEntry {H : Type} : Lit × DataW H → Nat
  | (.string bytes, d) => bytes.length + uptoBulk d + 1
  | (_, d) => uptoBulk d + 1
 end
def uptoSmall : (H : Type) → List (DataW H) → Bool := fun _ ds => decide (uptoBulkAll ds ≤ 1048576)
def OpenSpec.upto (s : _root_.Go.ChangeSpec) : _root_.Go.OpenSpec := { _root_.Go.OpenSpec.ofChange s with cond := some uptoSmall }

/-- 'tallymanlaw18.ReconKnown', WHERE WHAT IT READS IS OF BULK AT MOST 1048576: true; the input reads as it did. -/
def reconKnownUptoRow : OpenClaim := { program := "ytmefpnklgfhggaagreatdoor", sum := "20d9731eb9b9147ff72772dd5ed1854d0faf69f0659848d79dc3fd8156bcadec", func := "tallyman/tallymanlaw18.ReconKnown", spec := "reconKnown", inPlace := ["internal/bytealg.MakeNoZero", "internal/bytealg.Compare"], unfollowed := true, recurses := true, named := ["math/bits.deBruijn64tab"], plainKeys := false, apart := false, laid := [("math/bits.deBruijn64tab", laid_math_bits_deBruijn64tab)], narrowed := true }
def ReconKnownUptoSaid : Prop := reconKnownUptoRow.holds Tryz.pinned (OpenSpec.upto reconKnownSpec)

/-- 'tallymanlaw18.ReconPlays', WHERE WHAT IT READS IS OF BULK AT MOST 1048576: true; the input reads as it did. -/
def reconPlaysUptoRow : OpenClaim := { program := "ytmefpnklgfhggaagreatdoor", sum := "20d9731eb9b9147ff72772dd5ed1854d0faf69f0659848d79dc3fd8156bcadec", func := "tallyman/tallymanlaw18.ReconPlays", spec := "reconPlays", inPlace := ["internal/bytealg.MakeNoZero", "internal/bytealg.Compare"], unfollowed := true, recurses := true, named := ["math/bits.deBruijn64tab"], plainKeys := false, apart := false, laid := [("math/bits.deBruijn64tab", laid_math_bits_deBruijn64tab)], narrowed := true }
def ReconPlaysUptoSaid : Prop := reconPlaysUptoRow.holds Tryz.pinned (OpenSpec.upto reconPlaysSpec)

/-- 'tallymanlaw18.ReconExact', WHERE WHAT IT READS IS OF BULK AT MOST 1048576: true; the input reads as it did. -/
def reconExactUptoRow : OpenClaim := { program := "ytmefpnklgfhggaagreatdoor", sum := "20d9731eb9b9147ff72772dd5ed1854d0faf69f0659848d79dc3fd8156bcadec", func := "tallyman/tallymanlaw18.ReconExact", spec := "reconExact", inPlace := ["internal/bytealg.MakeNoZero", "internal/bytealg.Compare"], unfollowed := true, recurses := true, named := ["math/bits.deBruijn64tab"], plainKeys := false, apart := false, laid := [("math/bits.deBruijn64tab", laid_math_bits_deBruijn64tab)], narrowed := true }
def ReconExactUptoSaid : Prop := reconExactUptoRow.holds Tryz.pinned (OpenSpec.upto reconExactSpec)

/-- 'tallymanlaw18.ReconSelf', WHERE WHAT IT READS IS OF BULK AT MOST 1048576: true; the input reads as it did. -/
def reconSelfUptoRow : OpenClaim := { program := "ytmefpnklgfhggaagreatdoor", sum := "20d9731eb9b9147ff72772dd5ed1854d0faf69f0659848d79dc3fd8156bcadec", func := "tallyman/tallymanlaw18.ReconSelf", spec := "reconSelf", inPlace := ["internal/bytealg.MakeNoZero", "internal/bytealg.Compare"], unfollowed := true, recurses := true, named := ["math/bits.deBruijn64tab"], plainKeys := false, apart := false, laid := [("math/bits.deBruijn64tab", laid_math_bits_deBruijn64tab)], narrowed := true }
def ReconSelfUptoSaid : Prop := reconSelfUptoRow.holds Tryz.pinned (OpenSpec.upto reconSelfSpec)

/-- 'tallymanlaw18.ReconSwap', WHERE WHAT IT READS IS OF BULK AT MOST 1048576: true; the input reads as it did. -/
def reconSwapUptoRow : OpenClaim := { program := "ytmefpnklgfhggaagreatdoor", sum := "20d9731eb9b9147ff72772dd5ed1854d0faf69f0659848d79dc3fd8156bcadec", func := "tallyman/tallymanlaw18.ReconSwap", spec := "reconSwap", inPlace := ["internal/bytealg.MakeNoZero", "internal/bytealg.Compare"], unfollowed := true, recurses := true, named := ["math/bits.deBruijn64tab"], plainKeys := false, apart := false, laid := [("math/bits.deBruijn64tab", laid_math_bits_deBruijn64tab)], narrowed := true }
def ReconSwapUptoSaid : Prop := reconSwapUptoRow.holds Tryz.pinned (OpenSpec.upto reconSwapSpec)

end Rows
end Go.Proofs.YtmefpnklgfhggaaGreatDoor
