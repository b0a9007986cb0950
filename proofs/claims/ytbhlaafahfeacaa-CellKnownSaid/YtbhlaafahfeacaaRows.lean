/-
  No cell of these rows narrows 'for every input' (looked for: loops, veiled, ifaces, maps, wideKeys, modest, calm, conditions, laid).
  DERIVED. THE GIVEN ROWS OF THIS SEAT. 12 by the template 'for every input the law returns true; each argument reads behind the call as it read before'; 0 by the template 'total and deterministic' (their statements: YtbhlaafahfeacaaTotals.lean).
  GIVEN WITH THE SEED: the statements are not yours to turn. If you find one false, say at which input.
  Laid BY PROGRAM, IN A SANDBOX (cutbox-rows.mjs): the forced cells as the released guide's own fill.sh prints them over the translation 3532fe11edf47665… (all of the seat's roots in one cut). By AI agents, Wed Nov 11 2026. No macro, syntax, notation, axiom, sorry.
-/
import Derived.Test.YtbhlaafahfeacaaChecked
import GoSem.Claim
import GoSem.ClaimJoined
import GoSem.ClaimMapViews
import Derived.JoinedTies
import Derived.KernelRfl
namespace Go.Proofs.Ytbhlaafahfeacaa
/- THE CELL 'sum', in the pinned program and in every row, IS THE sha256 OF THE DUMP (.gsa) THAT YtbhlaafahfeacaaProg.lean LOADS. Nothing in Lean hashes anything: it is a label: what it is worth is what the hold of that sum in a sandbox is worth. -/
noncomputable def Try.pinned : Pinned := { name := "ytbhlaafahfeacaa", sum := "3532fe11edf476657ccbe23b4c5fac72e987787e8ccd37db9ec2899cd8bca2e7", checked := Try.checked }
namespace Rows
def none {H : Type} : Left H := { results := [], args := [] }

/-- 'tallymanlaw1.SumParts': WHATEVER THE INPUT: true; the input reads as it did. -/
def sumPartsSpec : ChangeSpec := { name := "sumParts", fn := fun _ => fun
  | [d1, d2] => { results := [.lit (.bool true)], args := [d1, d2] }
  | _ => none }
def sumPartsRow : OpenClaim := { program := "ytbhlaafahfeacaa", sum := "3532fe11edf476657ccbe23b4c5fac72e987787e8ccd37db9ec2899cd8bca2e7", func := "tallyman/tallymanlaw1.SumParts", spec := "sumParts", inPlace := ["internal/bytealg.MakeNoZero"], apart := false }
def SumPartsSaid : Prop := sumPartsRow.holds Try.pinned (OpenSpec.ofChange sumPartsSpec)

/-- ITS FALSE NEIGHBOUR: 'it returns false'. Refute it at one input. -/
def sumPartsWrong : ChangeSpec := { name := "sumParts", fn := fun _ => fun
  | [d1, d2] => { results := [.lit (.bool false)], args := [d1, d2] }
  | _ => none }
def SumPartsWrongFalsely : Prop := sumPartsRow.holds Try.pinned (OpenSpec.ofChange sumPartsWrong)

/-- 'tallymanlaw1.SumXors': WHATEVER THE INPUT: true; the input reads as it did. -/
def sumXorsSpec : ChangeSpec := { name := "sumXors", fn := fun _ => fun
  | [d1, d2, d3] => { results := [.lit (.bool true)], args := [d1, d2, d3] }
  | _ => none }
def sumXorsRow : OpenClaim := { program := "ytbhlaafahfeacaa", sum := "3532fe11edf476657ccbe23b4c5fac72e987787e8ccd37db9ec2899cd8bca2e7", func := "tallyman/tallymanlaw1.SumXors", spec := "sumXors", inPlace := ["internal/bytealg.MakeNoZero"], apart := false }
def SumXorsSaid : Prop := sumXorsRow.holds Try.pinned (OpenSpec.ofChange sumXorsSpec)

/-- ITS FALSE NEIGHBOUR: 'it returns false'. Refute it at one input. -/
def sumXorsWrong : ChangeSpec := { name := "sumXors", fn := fun _ => fun
  | [d1, d2, d3] => { results := [.lit (.bool false)], args := [d1, d2, d3] }
  | _ => none }
def SumXorsWrongFalsely : Prop := sumXorsRow.holds Try.pinned (OpenSpec.ofChange sumXorsWrong)

/-- 'tallymanlaw13.CellOne': WHATEVER THE INPUT: true; the input reads as it did. -/
def cellOneSpec : ChangeSpec := { name := "cellOne", fn := fun _ => fun
  | [d1, d2] => { results := [.lit (.bool true)], args := [d1, d2] }
  | _ => none }
def cellOneRow : OpenClaim := { program := "ytbhlaafahfeacaa", sum := "3532fe11edf476657ccbe23b4c5fac72e987787e8ccd37db9ec2899cd8bca2e7", func := "tallyman/tallymanlaw13.CellOne", spec := "cellOne", inPlace := ["internal/bytealg.MakeNoZero"], apart := false }
def CellOneSaid : Prop := cellOneRow.holds Try.pinned (OpenSpec.ofChange cellOneSpec)

/-- ITS FALSE NEIGHBOUR: 'it returns false'. Refute it at one input. -/
def cellOneWrong : ChangeSpec := { name := "cellOne", fn := fun _ => fun
  | [d1, d2] => { results := [.lit (.bool false)], args := [d1, d2] }
  | _ => none }
def CellOneWrongFalsely : Prop := cellOneRow.holds Try.pinned (OpenSpec.ofChange cellOneWrong)

/-- 'tallymanlaw1.SumOrder': WHATEVER THE INPUT: true; the input reads as it did. -/
def sumOrderSpec : ChangeSpec := { name := "sumOrder", fn := fun _ => fun
  | [d1, d2, d3] => { results := [.lit (.bool true)], args := [d1, d2, d3] }
  | _ => none }
def sumOrderRow : OpenClaim := { program := "ytbhlaafahfeacaa", sum := "3532fe11edf476657ccbe23b4c5fac72e987787e8ccd37db9ec2899cd8bca2e7", func := "tallyman/tallymanlaw1.SumOrder", spec := "sumOrder", inPlace := ["internal/bytealg.MakeNoZero", "internal/bytealg.Compare"], apart := false }
def SumOrderSaid : Prop := sumOrderRow.holds Try.pinned (OpenSpec.ofChange sumOrderSpec)

/-- ITS FALSE NEIGHBOUR: 'it returns false'. Refute it at one input. -/
def sumOrderWrong : ChangeSpec := { name := "sumOrder", fn := fun _ => fun
  | [d1, d2, d3] => { results := [.lit (.bool false)], args := [d1, d2, d3] }
  | _ => none }
def SumOrderWrongFalsely : Prop := sumOrderRow.holds Try.pinned (OpenSpec.ofChange sumOrderWrong)

/-- 'tallymanlaw13.CellKnown': WHATEVER THE INPUT: true; the input reads as it did. -/
def cellKnownSpec : ChangeSpec := { name := "cellKnown", fn := fun _ => fun
  | [] => { results := [.lit (.bool true)], args := [] }
  | _ => none }
def cellKnownRow : OpenClaim := { program := "ytbhlaafahfeacaa", sum := "3532fe11edf476657ccbe23b4c5fac72e987787e8ccd37db9ec2899cd8bca2e7", func := "tallyman/tallymanlaw13.CellKnown", spec := "cellKnown", inPlace := ["internal/bytealg.MakeNoZero"], apart := false }
def CellKnownSaid : Prop := cellKnownRow.holds Try.pinned (OpenSpec.ofChange cellKnownSpec)

/-- ITS FALSE NEIGHBOUR: 'it returns false'. Refute it at one input. -/
def cellKnownWrong : ChangeSpec := { name := "cellKnown", fn := fun _ => fun
  | [] => { results := [.lit (.bool false)], args := [] }
  | _ => none }
def CellKnownWrongFalsely : Prop := cellKnownRow.holds Try.pinned (OpenSpec.ofChange cellKnownWrong)

/-- 'tallymanlaw13.CellOrder': WHATEVER THE INPUT: true; the input reads as it did. -/
def cellOrderSpec : ChangeSpec := { name := "cellOrder", fn := fun _ => fun
  | [d1, d2] => { results := [.lit (.bool true)], args := [d1, d2] }
  | _ => none }
def cellOrderRow : OpenClaim := { program := "ytbhlaafahfeacaa", sum := "3532fe11edf476657ccbe23b4c5fac72e987787e8ccd37db9ec2899cd8bca2e7", func := "tallyman/tallymanlaw13.CellOrder", spec := "cellOrder", inPlace := ["internal/bytealg.MakeNoZero"], apart := false }
def CellOrderSaid : Prop := cellOrderRow.holds Try.pinned (OpenSpec.ofChange cellOrderSpec)

/-- ITS FALSE NEIGHBOUR: 'it returns false'. Refute it at one input. -/
def cellOrderWrong : ChangeSpec := { name := "cellOrder", fn := fun _ => fun
  | [d1, d2] => { results := [.lit (.bool false)], args := [d1, d2] }
  | _ => none }
def CellOrderWrongFalsely : Prop := cellOrderRow.holds Try.pinned (OpenSpec.ofChange cellOrderWrong)

/-- 'tallymanlaw13.CellMinus': WHATEVER THE INPUT: true; the input reads as it did. -/
def cellMinusSpec : ChangeSpec := { name := "cellMinus", fn := fun _ => fun
  | [d1, d2] => { results := [.lit (.bool true)], args := [d1, d2] }
  | _ => none }
def cellMinusRow : OpenClaim := { program := "ytbhlaafahfeacaa", sum := "3532fe11edf476657ccbe23b4c5fac72e987787e8ccd37db9ec2899cd8bca2e7", func := "tallyman/tallymanlaw13.CellMinus", spec := "cellMinus", inPlace := ["internal/bytealg.MakeNoZero"], apart := false }
def CellMinusSaid : Prop := cellMinusRow.holds Try.pinned (OpenSpec.ofChange cellMinusSpec)

/-- ITS FALSE NEIGHBOUR: 'it returns false'. Refute it at one input. -/
def cellMinusWrong : ChangeSpec := { name := "cellMinus", fn := fun _ => fun
  | [d1, d2] => { results := [.lit (.bool false)], args := [d1, d2] }
  | _ => none }
def CellMinusWrongFalsely : Prop := cellMinusRow.holds Try.pinned (OpenSpec.ofChange cellMinusWrong)

/-- 'tallymanlaw13.CellSays': WHATEVER THE INPUT: true; the input reads as it did. -/
def cellSaysSpec : ChangeSpec := { name := "cellSays", fn := fun _ => fun
  | [d1, d2, d3] => { results := [.lit (.bool true)], args := [d1, d2, d3] }
  | _ => none }
def cellSaysRow : OpenClaim := { program := "ytbhlaafahfeacaa", sum := "3532fe11edf476657ccbe23b4c5fac72e987787e8ccd37db9ec2899cd8bca2e7", func := "tallyman/tallymanlaw13.CellSays", spec := "cellSays", inPlace := ["internal/bytealg.MakeNoZero"], apart := false }
def CellSaysSaid : Prop := cellSaysRow.holds Try.pinned (OpenSpec.ofChange cellSaysSpec)

/-- ITS FALSE NEIGHBOUR: 'it returns false'. Refute it at one input. -/
def cellSaysWrong : ChangeSpec := { name := "cellSays", fn := fun _ => fun
  | [d1, d2, d3] => { results := [.lit (.bool false)], args := [d1, d2, d3] }
  | _ => none }
def CellSaysWrongFalsely : Prop := cellSaysRow.holds Try.pinned (OpenSpec.ofChange cellSaysWrong)

/-- 'tallymanlaw14.PlaceKnown': WHATEVER THE INPUT: true; the input reads as it did. -/
def placeKnownSpec : ChangeSpec := { name := "placeKnown", fn := fun _ => fun
  | [] => { results := [.lit (.bool true)], args := [] }
  | _ => none }
def placeKnownRow : OpenClaim := { program := "ytbhlaafahfeacaa", sum := "3532fe11edf476657ccbe23b4c5fac72e987787e8ccd37db9ec2899cd8bca2e7", func := "tallyman/tallymanlaw14.PlaceKnown", spec := "placeKnown", inPlace := ["internal/bytealg.MakeNoZero"], apart := false }
def PlaceKnownSaid : Prop := placeKnownRow.holds Try.pinned (OpenSpec.ofChange placeKnownSpec)

/-- ITS FALSE NEIGHBOUR: 'it returns false'. Refute it at one input. -/
def placeKnownWrong : ChangeSpec := { name := "placeKnown", fn := fun _ => fun
  | [] => { results := [.lit (.bool false)], args := [] }
  | _ => none }
def PlaceKnownWrongFalsely : Prop := placeKnownRow.holds Try.pinned (OpenSpec.ofChange placeKnownWrong)

/-- 'tallymanlaw1.SumKnown': WHATEVER THE INPUT: true; the input reads as it did. -/
def sumKnownSpec : ChangeSpec := { name := "sumKnown", fn := fun _ => fun
  | [] => { results := [.lit (.bool true)], args := [] }
  | _ => none }
def sumKnownRow : OpenClaim := { program := "ytbhlaafahfeacaa", sum := "3532fe11edf476657ccbe23b4c5fac72e987787e8ccd37db9ec2899cd8bca2e7", func := "tallyman/tallymanlaw1.SumKnown", spec := "sumKnown", inPlace := ["internal/bytealg.MakeNoZero", "internal/bytealg.IndexByteString", "internal/bytealg.Compare"], apart := false }
def SumKnownSaid : Prop := sumKnownRow.holds Try.pinned (OpenSpec.ofChange sumKnownSpec)

/-- ITS FALSE NEIGHBOUR: 'it returns false'. Refute it at one input. -/
def sumKnownWrong : ChangeSpec := { name := "sumKnown", fn := fun _ => fun
  | [] => { results := [.lit (.bool false)], args := [] }
  | _ => none }
def SumKnownWrongFalsely : Prop := sumKnownRow.holds Try.pinned (OpenSpec.ofChange sumKnownWrong)

/-- 'tallymanlaw1.SumSays': WHATEVER THE INPUT: true; the input reads as it did. -/
def sumSaysSpec : ChangeSpec := { name := "sumSays", fn := fun _ => fun
  | [d1, d2, d3, d4] => { results := [.lit (.bool true)], args := [d1, d2, d3, d4] }
  | _ => none }
def sumSaysRow : OpenClaim := { program := "ytbhlaafahfeacaa", sum := "3532fe11edf476657ccbe23b4c5fac72e987787e8ccd37db9ec2899cd8bca2e7", func := "tallyman/tallymanlaw1.SumSays", spec := "sumSays", inPlace := ["internal/bytealg.MakeNoZero", "internal/bytealg.IndexByteString", "internal/bytealg.Compare"], apart := false }
def SumSaysSaid : Prop := sumSaysRow.holds Try.pinned (OpenSpec.ofChange sumSaysSpec)

/-- ITS FALSE NEIGHBOUR: 'it returns false'. Refute it at one input. -/
def sumSaysWrong : ChangeSpec := { name := "sumSays", fn := fun _ => fun
  | [d1, d2, d3, d4] => { results := [.lit (.bool false)], args := [d1, d2, d3, d4] }
  | _ => none }
def SumSaysWrongFalsely : Prop := sumSaysRow.holds Try.pinned (OpenSpec.ofChange sumSaysWrong)

/-- 'tallymanlaw1.SumRaw': WHATEVER THE INPUT: true; the input reads as it did. -/
def sumRawSpec : ChangeSpec := { name := "sumRaw", fn := fun _ => fun
  | [d1, d2, d3] => { results := [.lit (.bool true)], args := [d1, d2, d3] }
  | _ => none }
def sumRawRow : OpenClaim := { program := "ytbhlaafahfeacaa", sum := "3532fe11edf476657ccbe23b4c5fac72e987787e8ccd37db9ec2899cd8bca2e7", func := "tallyman/tallymanlaw1.SumRaw", spec := "sumRaw", inPlace := ["internal/bytealg.MakeNoZero", "internal/bytealg.IndexByteString", "internal/bytealg.Compare"], apart := false }
def SumRawSaid : Prop := sumRawRow.holds Try.pinned (OpenSpec.ofChange sumRawSpec)

/-- ITS FALSE NEIGHBOUR: 'it returns false'. Refute it at one input. -/
def sumRawWrong : ChangeSpec := { name := "sumRaw", fn := fun _ => fun
  | [d1, d2, d3] => { results := [.lit (.bool false)], args := [d1, d2, d3] }
  | _ => none }
def SumRawWrongFalsely : Prop := sumRawRow.holds Try.pinned (OpenSpec.ofChange sumRawWrong)

/- THE SECOND FORM. 'bulk': how many values and letters a reading holds, each counted each time it is reached (what is shared counts as often as it is met; a slice's spare places count too). A statement '..UptoSaid' is the law's where the arguments, and the package variables that the reading takes, are together of bulk at most 1048576: NARROWER than '..Said'. Prove '..Said' where nothing that the law and all that it calls make is longer than what came in: it says more and counts as full. Else prove '..UptoSaid'. A law counts once. -/
mutual
def uptoBulk {H : Type} : DataW H → Nat
  | .lit (.string bytes) => bytes.length + 1
  | .lit _ => 1
  | .nil => 1
  | .ptr d => uptoBulk d + 1
  | .slice elems spare => uptoBulkAll elems + uptoBulkAll spare + 1
  | .agg parts => uptoBulkAll parts + 1
  | .iface _ d => uptoBulk d + 1
  | .map entries => uptoBulkEntries entries + 1
  | .held _ => 1
def uptoBulkAll {H : Type} : List (DataW H) → Nat
  | [] => 0
  | d :: r => uptoBulk d + uptoBulkAll r
def uptoBulkEntries {H : Type} : List (Lit × DataW H) → Nat
  | [] => 0
  | x :: r => uptoBulkEntry x + uptoBulkEntries r
def uptoBulkEntry {H : Type} : Lit × DataW H → Nat
  | (.string bytes, d) => bytes.length + uptoBulk d + 1
  | (_, d) => uptoBulk d + 1
 end
def uptoSmall : (H : Type) → List (DataW H) → Bool := fun _ ds => decide (uptoBulkAll ds ≤ 1048576)
def OpenSpec.upto (s : _root_.Go.ChangeSpec) : _root_.Go.OpenSpec := { _root_.Go.OpenSpec.ofChange s with cond := some uptoSmall }

/-- 'tallymanlaw1.SumParts', WHERE WHAT IT READS IS OF BULK AT MOST 1048576: true; the input reads as it did. -/
def sumPartsUptoRow : OpenClaim := { program := "ytbhlaafahfeacaa", sum := "3532fe11edf476657ccbe23b4c5fac72e987787e8ccd37db9ec2899cd8bca2e7", func := "tallyman/tallymanlaw1.SumParts", spec := "sumParts", inPlace := ["internal/bytealg.MakeNoZero"], apart := false, narrowed := true }
def SumPartsUptoSaid : Prop := sumPartsUptoRow.holds Try.pinned (OpenSpec.upto sumPartsSpec)

/-- 'tallymanlaw1.SumXors', WHERE WHAT IT READS IS OF BULK AT MOST 1048576: true; the input reads as it did. -/
def sumXorsUptoRow : OpenClaim := { program := "ytbhlaafahfeacaa", sum := "3532fe11edf476657ccbe23b4c5fac72e987787e8ccd37db9ec2899cd8bca2e7", func := "tallyman/tallymanlaw1.SumXors", spec := "sumXors", inPlace := ["internal/bytealg.MakeNoZero"], apart := false, narrowed := true }
def SumXorsUptoSaid : Prop := sumXorsUptoRow.holds Try.pinned (OpenSpec.upto sumXorsSpec)

/-- 'tallymanlaw13.CellOne', WHERE WHAT IT READS IS OF BULK AT MOST 1048576: true; the input reads as it did. -/
def cellOneUptoRow : OpenClaim := { program := "ytbhlaafahfeacaa", sum := "3532fe11edf476657ccbe23b4c5fac72e987787e8ccd37db9ec2899cd8bca2e7", func := "tallyman/tallymanlaw13.CellOne", spec := "cellOne", inPlace := ["internal/bytealg.MakeNoZero"], apart := false, narrowed := true }
def CellOneUptoSaid : Prop := cellOneUptoRow.holds Try.pinned (OpenSpec.upto cellOneSpec)

/-- 'tallymanlaw1.SumOrder', WHERE WHAT IT READS IS OF BULK AT MOST 1048576: true; the input reads as it did. -/
def sumOrderUptoRow : OpenClaim := { program := "ytbhlaafahfeacaa", sum := "3532fe11edf476657ccbe23b4c5fac72e987787e8ccd37db9ec2899cd8bca2e7", func := "tallyman/tallymanlaw1.SumOrder", spec := "sumOrder", inPlace := ["internal/bytealg.MakeNoZero", "internal/bytealg.Compare"], apart := false, narrowed := true }
def SumOrderUptoSaid : Prop := sumOrderUptoRow.holds Try.pinned (OpenSpec.upto sumOrderSpec)

/-- 'tallymanlaw13.CellKnown', WHERE WHAT IT READS IS OF BULK AT MOST 1048576: true; the input reads as it did. -/
def cellKnownUptoRow : OpenClaim := { program := "ytbhlaafahfeacaa", sum := "3532fe11edf476657ccbe23b4c5fac72e987787e8ccd37db9ec2899cd8bca2e7", func := "tallyman/tallymanlaw13.CellKnown", spec := "cellKnown", inPlace := ["internal/bytealg.MakeNoZero"], apart := false, narrowed := true }
def CellKnownUptoSaid : Prop := cellKnownUptoRow.holds Try.pinned (OpenSpec.upto cellKnownSpec)

/-- 'tallymanlaw13.CellOrder', WHERE WHAT IT READS IS OF BULK AT MOST 1048576: true; the input reads as it did. -/
def cellOrderUptoRow : OpenClaim := { program := "ytbhlaafahfeacaa", sum := "3532fe11edf476657ccbe23b4c5fac72e987787e8ccd37db9ec2899cd8bca2e7", func := "tallyman/tallymanlaw13.CellOrder", spec := "cellOrder", inPlace := ["internal/bytealg.MakeNoZero"], apart := false, narrowed := true }
def CellOrderUptoSaid : Prop := cellOrderUptoRow.holds Try.pinned (OpenSpec.upto cellOrderSpec)

/-- 'tallymanlaw13.CellMinus', WHERE WHAT IT READS IS OF BULK AT MOST 1048576: true; the input reads as it did. -/
def cellMinusUptoRow : OpenClaim := { program := "ytbhlaafahfeacaa", sum := "3532fe11edf476657ccbe23b4c5fac72e987787e8ccd37db9ec2899cd8bca2e7", func := "tallyman/tallymanlaw13.CellMinus", spec := "cellMinus", inPlace := ["internal/bytealg.MakeNoZero"], apart := false, narrowed := true }
def CellMinusUptoSaid : Prop := cellMinusUptoRow.holds Try.pinned (OpenSpec.upto cellMinusSpec)

/-- 'tallymanlaw13.CellSays', WHERE WHAT IT READS IS OF BULK AT MOST 1048576: true; the input reads as it did. -/
def cellSaysUptoRow : OpenClaim := { program := "ytbhlaafahfeacaa", sum := "3532fe11edf476657ccbe23b4c5fac72e987787e8ccd37db9ec2899cd8bca2e7", func := "tallyman/tallymanlaw13.CellSays", spec := "cellSays", inPlace := ["internal/bytealg.MakeNoZero"], apart := false, narrowed := true }
def CellSaysUptoSaid : Prop := cellSaysUptoRow.holds Try.pinned (OpenSpec.upto cellSaysSpec)

/-- 'tallymanlaw14.PlaceKnown', WHERE WHAT IT READS IS OF BULK AT MOST 1048576: true; the input reads as it did. -/
def placeKnownUptoRow : OpenClaim := { program := "ytbhlaafahfeacaa", sum := "3532fe11edf476657ccbe23b4c5fac72e987787e8ccd37db9ec2899cd8bca2e7", func := "tallyman/tallymanlaw14.PlaceKnown", spec := "placeKnown", inPlace := ["internal/bytealg.MakeNoZero"], apart := false, narrowed := true }
def PlaceKnownUptoSaid : Prop := placeKnownUptoRow.holds Try.pinned (OpenSpec.upto placeKnownSpec)

/-- 'tallymanlaw1.SumKnown', WHERE WHAT IT READS IS OF BULK AT MOST 1048576: true; the input reads as it did. -/
def sumKnownUptoRow : OpenClaim := { program := "ytbhlaafahfeacaa", sum := "3532fe11edf476657ccbe23b4c5fac72e987787e8ccd37db9ec2899cd8bca2e7", func := "tallyman/tallymanlaw1.SumKnown", spec := "sumKnown", inPlace := ["internal/bytealg.MakeNoZero", "internal/bytealg.IndexByteString", "internal/bytealg.Compare"], apart := false, narrowed := true }
def SumKnownUptoSaid : Prop := sumKnownUptoRow.holds Try.pinned (OpenSpec.upto sumKnownSpec)

/-- 'tallymanlaw1.SumSays', WHERE WHAT IT READS IS OF BULK AT MOST 1048576: true; the input reads as it did. -/
def sumSaysUptoRow : OpenClaim := { program := "ytbhlaafahfeacaa", sum := "3532fe11edf476657ccbe23b4c5fac72e987787e8ccd37db9ec2899cd8bca2e7", func := "tallyman/tallymanlaw1.SumSays", spec := "sumSays", inPlace := ["internal/bytealg.MakeNoZero", "internal/bytealg.IndexByteString", "internal/bytealg.Compare"], apart := false, narrowed := true }
def SumSaysUptoSaid : Prop := sumSaysUptoRow.holds Try.pinned (OpenSpec.upto sumSaysSpec)

/-- 'tallymanlaw1.SumRaw', WHERE WHAT IT READS IS OF BULK AT MOST 1048576: true; the input reads as it did. -/
def sumRawUptoRow : OpenClaim := { program := "ytbhlaafahfeacaa", sum := "3532fe11edf476657ccbe23b4c5fac72e987787e8ccd37db9ec2899cd8bca2e7", func := "tallyman/tallymanlaw1.SumRaw", spec := "sumRaw", inPlace := ["internal/bytealg.MakeNoZero", "internal/bytealg.IndexByteString", "internal/bytealg.Compare"], apart := false, narrowed := true }
def SumRawUptoSaid : Prop := sumRawUptoRow.holds Try.pinned (OpenSpec.upto sumRawSpec)

end Rows
end Go.Proofs.Ytbhlaafahfeacaa
