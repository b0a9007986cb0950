/-
  No cell of these rows narrows 'for every input' (looked for: loops, veiled, ifaces, maps, wideKeys, modest, calm, conditions, laid).
  DERIVED. THE GIVEN ROWS OF THIS SEAT. 11 by the template 'for every input the law returns true; each argument reads behind the call as it read before'; 0 by the template 'total and deterministic' (their statements: YtibckdnfgopghaaTotals.lean).
  GIVEN WITH THE SEED: the statements are not yours to turn. If you find one false, say at which input.
  Laid BY PROGRAM, IN A SANDBOX (cutbox-rows.mjs): the forced cells as the released guide's own fill.sh prints them over the translation 0929cd1b02481497… (all of the seat's roots in one cut). By AI agents, Wed Nov 11 2026. No macro, syntax, notation, axiom, sorry.
-/
import Derived.Test.YtibckdnfgopghaaChecked
import GoSem.Claim
import GoSem.ClaimJoined
import GoSem.ClaimMapViews
import Derived.JoinedTies
import Derived.KernelRfl
namespace Go.Proofs.Ytibckdnfgopghaa
/- THE CELL 'sum', in the pinned program and in every row, IS THE sha256 OF THE DUMP (.gsa) THAT YtibckdnfgopghaaProg.lean LOADS. Nothing in Lean hashes anything: it is a label: what it is worth is what the hold of that sum in a sandbox is worth. -/
noncomputable def Try.pinned : Pinned := { name := "ytibckdnfgopghaa", sum := "0929cd1b02481497050d6404be64cabb52d62e3c97c4857c1f0eb9f54e59621a", checked := Try.checked }
namespace Rows
def none {H : Type} : Left H := { results := [], args := [] }

/-- 'tallymanlaw5.RollApart': WHATEVER THE INPUT: true; the input reads as it did. -/
def rollApartSpec : ChangeSpec := { name := "rollApart", fn := fun _ => fun
  | [d1, d2, d3] => { results := [.lit (.bool true)], args := [d1, d2, d3] }
  | _ => none }
def rollApartRow : OpenClaim := { program := "ytibckdnfgopghaa", sum := "0929cd1b02481497050d6404be64cabb52d62e3c97c4857c1f0eb9f54e59621a", func := "tallyman/tallymanlaw5.RollApart", spec := "rollApart", apart := false }
def RollApartSaid : Prop := rollApartRow.holds Try.pinned (OpenSpec.ofChange rollApartSpec)

/-- ITS FALSE NEIGHBOUR: 'it returns false'. Refute it at one input. -/
def rollApartWrong : ChangeSpec := { name := "rollApart", fn := fun _ => fun
  | [d1, d2, d3] => { results := [.lit (.bool false)], args := [d1, d2, d3] }
  | _ => none }
def RollApartWrongFalsely : Prop := rollApartRow.holds Try.pinned (OpenSpec.ofChange rollApartWrong)

/-- 'tallymanlaw5.RollSays': WHATEVER THE INPUT: true; the input reads as it did. -/
def rollSaysSpec : ChangeSpec := { name := "rollSays", fn := fun _ => fun
  | [d1, d2] => { results := [.lit (.bool true)], args := [d1, d2] }
  | _ => none }
def rollSaysRow : OpenClaim := { program := "ytibckdnfgopghaa", sum := "0929cd1b02481497050d6404be64cabb52d62e3c97c4857c1f0eb9f54e59621a", func := "tallyman/tallymanlaw5.RollSays", spec := "rollSays", apart := false }
def RollSaysSaid : Prop := rollSaysRow.holds Try.pinned (OpenSpec.ofChange rollSaysSpec)

/-- ITS FALSE NEIGHBOUR: 'it returns false'. Refute it at one input. -/
def rollSaysWrong : ChangeSpec := { name := "rollSays", fn := fun _ => fun
  | [d1, d2] => { results := [.lit (.bool false)], args := [d1, d2] }
  | _ => none }
def RollSaysWrongFalsely : Prop := rollSaysRow.holds Try.pinned (OpenSpec.ofChange rollSaysWrong)

/-- 'tallymanlaw5.RollSlides': WHATEVER THE INPUT: true; the input reads as it did. -/
def rollSlidesSpec : ChangeSpec := { name := "rollSlides", fn := fun _ => fun
  | [d1, d2, d3, d4, d5] => { results := [.lit (.bool true)], args := [d1, d2, d3, d4, d5] }
  | _ => none }
def rollSlidesRow : OpenClaim := { program := "ytibckdnfgopghaa", sum := "0929cd1b02481497050d6404be64cabb52d62e3c97c4857c1f0eb9f54e59621a", func := "tallyman/tallymanlaw5.RollSlides", spec := "rollSlides", apart := false }
def RollSlidesSaid : Prop := rollSlidesRow.holds Try.pinned (OpenSpec.ofChange rollSlidesSpec)

/-- ITS FALSE NEIGHBOUR: 'it returns false'. Refute it at one input. -/
def rollSlidesWrong : ChangeSpec := { name := "rollSlides", fn := fun _ => fun
  | [d1, d2, d3, d4, d5] => { results := [.lit (.bool false)], args := [d1, d2, d3, d4, d5] }
  | _ => none }
def RollSlidesWrongFalsely : Prop := rollSlidesRow.holds Try.pinned (OpenSpec.ofChange rollSlidesWrong)

/-- 'tallymanlaw5.RollReset': WHATEVER THE INPUT: true; the input reads as it did. -/
def rollResetSpec : ChangeSpec := { name := "rollReset", fn := fun _ => fun
  | [d1, d2, d3] => { results := [.lit (.bool true)], args := [d1, d2, d3] }
  | _ => none }
def rollResetRow : OpenClaim := { program := "ytibckdnfgopghaa", sum := "0929cd1b02481497050d6404be64cabb52d62e3c97c4857c1f0eb9f54e59621a", func := "tallyman/tallymanlaw5.RollReset", spec := "rollReset", apart := false }
def RollResetSaid : Prop := rollResetRow.holds Try.pinned (OpenSpec.ofChange rollResetSpec)

/-- ITS FALSE NEIGHBOUR: 'it returns false'. Refute it at one input. -/
def rollResetWrong : ChangeSpec := { name := "rollReset", fn := fun _ => fun
  | [d1, d2, d3] => { results := [.lit (.bool false)], args := [d1, d2, d3] }
  | _ => none }
def RollResetWrongFalsely : Prop := rollResetRow.holds Try.pinned (OpenSpec.ofChange rollResetWrong)

/-- 'tallymanlaw5.RollKnown': WHATEVER THE INPUT: true; the input reads as it did. -/
def rollKnownSpec : ChangeSpec := { name := "rollKnown", fn := fun _ => fun
  | [] => { results := [.lit (.bool true)], args := [] }
  | _ => none }
def rollKnownRow : OpenClaim := { program := "ytibckdnfgopghaa", sum := "0929cd1b02481497050d6404be64cabb52d62e3c97c4857c1f0eb9f54e59621a", func := "tallyman/tallymanlaw5.RollKnown", spec := "rollKnown", apart := false }
def RollKnownSaid : Prop := rollKnownRow.holds Try.pinned (OpenSpec.ofChange rollKnownSpec)

/-- ITS FALSE NEIGHBOUR: 'it returns false'. Refute it at one input. -/
def rollKnownWrong : ChangeSpec := { name := "rollKnown", fn := fun _ => fun
  | [] => { results := [.lit (.bool false)], args := [] }
  | _ => none }
def RollKnownWrongFalsely : Prop := rollKnownRow.holds Try.pinned (OpenSpec.ofChange rollKnownWrong)

/-- 'tallymanlaw6.CutKnown': WHATEVER THE INPUT: true; the input reads as it did. -/
def cutKnownSpec : ChangeSpec := { name := "cutKnown", fn := fun _ => fun
  | [] => { results := [.lit (.bool true)], args := [] }
  | _ => none }
def cutKnownRow : OpenClaim := { program := "ytibckdnfgopghaa", sum := "0929cd1b02481497050d6404be64cabb52d62e3c97c4857c1f0eb9f54e59621a", func := "tallyman/tallymanlaw6.CutKnown", spec := "cutKnown", apart := false }
def CutKnownSaid : Prop := cutKnownRow.holds Try.pinned (OpenSpec.ofChange cutKnownSpec)

/-- ITS FALSE NEIGHBOUR: 'it returns false'. Refute it at one input. -/
def cutKnownWrong : ChangeSpec := { name := "cutKnown", fn := fun _ => fun
  | [] => { results := [.lit (.bool false)], args := [] }
  | _ => none }
def CutKnownWrongFalsely : Prop := cutKnownRow.holds Try.pinned (OpenSpec.ofChange cutKnownWrong)

/-- 'tallymanlaw6.CutSays': WHATEVER THE INPUT: true; the input reads as it did. -/
def cutSaysSpec : ChangeSpec := { name := "cutSays", fn := fun _ => fun
  | [d1, d2] => { results := [.lit (.bool true)], args := [d1, d2] }
  | _ => none }
def cutSaysRow : OpenClaim := { program := "ytibckdnfgopghaa", sum := "0929cd1b02481497050d6404be64cabb52d62e3c97c4857c1f0eb9f54e59621a", func := "tallyman/tallymanlaw6.CutSays", spec := "cutSays", apart := false }
def CutSaysSaid : Prop := cutSaysRow.holds Try.pinned (OpenSpec.ofChange cutSaysSpec)

/-- ITS FALSE NEIGHBOUR: 'it returns false'. Refute it at one input. -/
def cutSaysWrong : ChangeSpec := { name := "cutSays", fn := fun _ => fun
  | [d1, d2] => { results := [.lit (.bool false)], args := [d1, d2] }
  | _ => none }
def CutSaysWrongFalsely : Prop := cutSaysRow.holds Try.pinned (OpenSpec.ofChange cutSaysWrong)

/-- 'tallymanlaw6.CutPlain': WHATEVER THE INPUT: true; the input reads as it did. -/
def cutPlainSpec : ChangeSpec := { name := "cutPlain", fn := fun _ => fun
  | [d] => { results := [.lit (.bool true)], args := [d] }
  | _ => none }
def cutPlainRow : OpenClaim := { program := "ytibckdnfgopghaa", sum := "0929cd1b02481497050d6404be64cabb52d62e3c97c4857c1f0eb9f54e59621a", func := "tallyman/tallymanlaw6.CutPlain", spec := "cutPlain", apart := false }
def CutPlainSaid : Prop := cutPlainRow.holds Try.pinned (OpenSpec.ofChange cutPlainSpec)

/-- ITS FALSE NEIGHBOUR: 'it returns false'. Refute it at one input. -/
def cutPlainWrong : ChangeSpec := { name := "cutPlain", fn := fun _ => fun
  | [d] => { results := [.lit (.bool false)], args := [d] }
  | _ => none }
def CutPlainWrongFalsely : Prop := cutPlainRow.holds Try.pinned (OpenSpec.ofChange cutPlainWrong)

/-- 'tallymanlaw6.CutAgain': WHATEVER THE INPUT: true; the input reads as it did. -/
def cutAgainSpec : ChangeSpec := { name := "cutAgain", fn := fun _ => fun
  | [d1, d2, d3, d4] => { results := [.lit (.bool true)], args := [d1, d2, d3, d4] }
  | _ => none }
def cutAgainRow : OpenClaim := { program := "ytibckdnfgopghaa", sum := "0929cd1b02481497050d6404be64cabb52d62e3c97c4857c1f0eb9f54e59621a", func := "tallyman/tallymanlaw6.CutAgain", spec := "cutAgain", apart := false }
def CutAgainSaid : Prop := cutAgainRow.holds Try.pinned (OpenSpec.ofChange cutAgainSpec)

/-- ITS FALSE NEIGHBOUR: 'it returns false'. Refute it at one input. -/
def cutAgainWrong : ChangeSpec := { name := "cutAgain", fn := fun _ => fun
  | [d1, d2, d3, d4] => { results := [.lit (.bool false)], args := [d1, d2, d3, d4] }
  | _ => none }
def CutAgainWrongFalsely : Prop := cutAgainRow.holds Try.pinned (OpenSpec.ofChange cutAgainWrong)

/-- 'tallymanlaw6.CutLocal': WHATEVER THE INPUT: true; the input reads as it did. -/
def cutLocalSpec : ChangeSpec := { name := "cutLocal", fn := fun _ => fun
  | [d1, d2, d3] => { results := [.lit (.bool true)], args := [d1, d2, d3] }
  | _ => none }
def cutLocalRow : OpenClaim := { program := "ytibckdnfgopghaa", sum := "0929cd1b02481497050d6404be64cabb52d62e3c97c4857c1f0eb9f54e59621a", func := "tallyman/tallymanlaw6.CutLocal", spec := "cutLocal", apart := false }
def CutLocalSaid : Prop := cutLocalRow.holds Try.pinned (OpenSpec.ofChange cutLocalSpec)

/-- ITS FALSE NEIGHBOUR: 'it returns false'. Refute it at one input. -/
def cutLocalWrong : ChangeSpec := { name := "cutLocal", fn := fun _ => fun
  | [d1, d2, d3] => { results := [.lit (.bool false)], args := [d1, d2, d3] }
  | _ => none }
def CutLocalWrongFalsely : Prop := cutLocalRow.holds Try.pinned (OpenSpec.ofChange cutLocalWrong)

/-- 'tallymanlaw6.CutFew': WHATEVER THE INPUT: true; the input reads as it did. -/
def cutFewSpec : ChangeSpec := { name := "cutFew", fn := fun _ => fun
  | [d1, d2] => { results := [.lit (.bool true)], args := [d1, d2] }
  | _ => none }
def cutFewRow : OpenClaim := { program := "ytibckdnfgopghaa", sum := "0929cd1b02481497050d6404be64cabb52d62e3c97c4857c1f0eb9f54e59621a", func := "tallyman/tallymanlaw6.CutFew", spec := "cutFew", apart := false }
def CutFewSaid : Prop := cutFewRow.holds Try.pinned (OpenSpec.ofChange cutFewSpec)

/-- ITS FALSE NEIGHBOUR: 'it returns false'. Refute it at one input. -/
def cutFewWrong : ChangeSpec := { name := "cutFew", fn := fun _ => fun
  | [d1, d2] => { results := [.lit (.bool false)], args := [d1, d2] }
  | _ => none }
def CutFewWrongFalsely : Prop := cutFewRow.holds Try.pinned (OpenSpec.ofChange cutFewWrong)

/- THE SECOND FORM. 'bulk': how many values and letters a reading holds, each counted each time it is reached (what is shared counts as often as it is met; a slice's spare places count too). A statement '..UptoSaid' is the law's where the arguments, and the package variables that the reading takes, are together of bulk at most 1048576: NARROWER than '..Said'. Prove '..Said' where nothing that the law and all that it calls make is longer than what came in: it says more and counts as full. Else prove '..UptoSaid'. A law counts once. -/
mutual
def uptoBulk {H : Type} : DataW H → Nat
  | .lit (.string bytes) => bytes.length + 1
  | .lit _ => 1
  | .nil => 1
  | .ptr d => uptoBulk d + 1
  | .slice elems spare => uptoBulkAll elems + uptoBulkAll spare + 1
  | .agg parts => uptoBulkAll parts + 1
  | .iface _ d => uptoBulk d + 1
  | .map entries => uptoBulkEntries entries + 1
  | .held _ => 1
def uptoBulkAll {H : Type} : List (DataW H) → Nat
  | [] => 0
  | d :: r => uptoBulk d + uptoBulkAll r
def uptoBulkEntries {H : Type} : List (Lit × DataW H) → Nat
  | [] => 0
  | x :: r => uptoBulkEntry x + uptoBulkEntries r
def uptoBulkEntry {H : Type} : Lit × DataW H → Nat
  | (.string bytes, d) => bytes.length + uptoBulk d + 1
  | (_, d) => uptoBulk d + 1
 end
def uptoSmall : (H : Type) → List (DataW H) → Bool := fun _ ds => decide (uptoBulkAll ds ≤ 1048576)
def OpenSpec.upto (s : _root_.Go.ChangeSpec) : _root_.Go.OpenSpec := { _root_.Go.OpenSpec.ofChange s with cond := some uptoSmall }

/-- 'tallymanlaw5.RollApart', WHERE WHAT IT READS IS OF BULK AT MOST 1048576: true; the input reads as it did. -/
def rollApartUptoRow : OpenClaim := { program := "ytibckdnfgopghaa", sum := "0929cd1b02481497050d6404be64cabb52d62e3c97c4857c1f0eb9f54e59621a", func := "tallyman/tallymanlaw5.RollApart", spec := "rollApart", apart := false, narrowed := true }
def RollApartUptoSaid : Prop := rollApartUptoRow.holds Try.pinned (OpenSpec.upto rollApartSpec)

/-- 'tallymanlaw5.RollSays', WHERE WHAT IT READS IS OF BULK AT MOST 1048576: true; the input reads as it did. -/
def rollSaysUptoRow : OpenClaim := { program := "ytibckdnfgopghaa", sum := "0929cd1b02481497050d6404be64cabb52d62e3c97c4857c1f0eb9f54e59621a", func := "tallyman/tallymanlaw5.RollSays", spec := "rollSays", apart := false, narrowed := true }
def RollSaysUptoSaid : Prop := rollSaysUptoRow.holds Try.pinned (OpenSpec.upto rollSaysSpec)

/-- 'tallymanlaw5.RollSlides', WHERE WHAT IT READS IS OF BULK AT MOST 1048576: true; the input reads as it did. -/
def rollSlidesUptoRow : OpenClaim := { program := "ytibckdnfgopghaa", sum := "0929cd1b02481497050d6404be64cabb52d62e3c97c4857c1f0eb9f54e59621a", func := "tallyman/tallymanlaw5.RollSlides", spec := "rollSlides", apart := false, narrowed := true }
def RollSlidesUptoSaid : Prop := rollSlidesUptoRow.holds Try.pinned (OpenSpec.upto rollSlidesSpec)

/-- 'tallymanlaw5.RollReset', WHERE WHAT IT READS IS OF BULK AT MOST 1048576: true; the input reads as it did. -/
def rollResetUptoRow : OpenClaim := { program := "ytibckdnfgopghaa", sum := "0929cd1b02481497050d6404be64cabb52d62e3c97c4857c1f0eb9f54e59621a", func := "tallyman/tallymanlaw5.RollReset", spec := "rollReset", apart := false, narrowed := true }
def RollResetUptoSaid : Prop := rollResetUptoRow.holds Try.pinned (OpenSpec.upto rollResetSpec)

/-- 'tallymanlaw5.RollKnown', WHERE WHAT IT READS IS OF BULK AT MOST 1048576: true; the input reads as it did. -/
def rollKnownUptoRow : OpenClaim := { program := "ytibckdnfgopghaa", sum := "0929cd1b02481497050d6404be64cabb52d62e3c97c4857c1f0eb9f54e59621a", func := "tallyman/tallymanlaw5.RollKnown", spec := "rollKnown", apart := false, narrowed := true }
def RollKnownUptoSaid : Prop := rollKnownUptoRow.holds Try.pinned (OpenSpec.upto rollKnownSpec)

/-- 'tallymanlaw6.CutKnown', WHERE WHAT IT READS IS OF BULK AT MOST 1048576: true; the input reads as it did. -/
def cutKnownUptoRow : OpenClaim := { program := "ytibckdnfgopghaa", sum := "0929cd1b02481497050d6404be64cabb52d62e3c97c4857c1f0eb9f54e59621a", func := "tallyman/tallymanlaw6.CutKnown", spec := "cutKnown", apart := false, narrowed := true }
def CutKnownUptoSaid : Prop := cutKnownUptoRow.holds Try.pinned (OpenSpec.upto cutKnownSpec)

/-- 'tallymanlaw6.CutSays', WHERE WHAT IT READS IS OF BULK AT MOST 1048576: true; the input reads as it did. -/
def cutSaysUptoRow : OpenClaim := { program := "ytibckdnfgopghaa", sum := "0929cd1b02481497050d6404be64cabb52d62e3c97c4857c1f0eb9f54e59621a", func := "tallyman/tallymanlaw6.CutSays", spec := "cutSays", apart := false, narrowed := true }
def CutSaysUptoSaid : Prop := cutSaysUptoRow.holds Try.pinned (OpenSpec.upto cutSaysSpec)

/-- 'tallymanlaw6.CutPlain', WHERE WHAT IT READS IS OF BULK AT MOST 1048576: true; the input reads as it did. -/
def cutPlainUptoRow : OpenClaim := { program := "ytibckdnfgopghaa", sum := "0929cd1b02481497050d6404be64cabb52d62e3c97c4857c1f0eb9f54e59621a", func := "tallyman/tallymanlaw6.CutPlain", spec := "cutPlain", apart := false, narrowed := true }
def CutPlainUptoSaid : Prop := cutPlainUptoRow.holds Try.pinned (OpenSpec.upto cutPlainSpec)

/-- 'tallymanlaw6.CutAgain', WHERE WHAT IT READS IS OF BULK AT MOST 1048576: true; the input reads as it did. -/
def cutAgainUptoRow : OpenClaim := { program := "ytibckdnfgopghaa", sum := "0929cd1b02481497050d6404be64cabb52d62e3c97c4857c1f0eb9f54e59621a", func := "tallyman/tallymanlaw6.CutAgain", spec := "cutAgain", apart := false, narrowed := true }
def CutAgainUptoSaid : Prop := cutAgainUptoRow.holds Try.pinned (OpenSpec.upto cutAgainSpec)

/-- 'tallymanlaw6.CutLocal', WHERE WHAT IT READS IS OF BULK AT MOST 1048576: true; the input reads as it did. -/
def cutLocalUptoRow : OpenClaim := { program := "ytibckdnfgopghaa", sum := "0929cd1b02481497050d6404be64cabb52d62e3c97c4857c1f0eb9f54e59621a", func := "tallyman/tallymanlaw6.CutLocal", spec := "cutLocal", apart := false, narrowed := true }
def CutLocalUptoSaid : Prop := cutLocalUptoRow.holds Try.pinned (OpenSpec.upto cutLocalSpec)

/-- 'tallymanlaw6.CutFew', WHERE WHAT IT READS IS OF BULK AT MOST 1048576: true; the input reads as it did. -/
def cutFewUptoRow : OpenClaim := { program := "ytibckdnfgopghaa", sum := "0929cd1b02481497050d6404be64cabb52d62e3c97c4857c1f0eb9f54e59621a", func := "tallyman/tallymanlaw6.CutFew", spec := "cutFew", apart := false, narrowed := true }
def CutFewUptoSaid : Prop := cutFewUptoRow.holds Try.pinned (OpenSpec.upto cutFewSpec)

end Rows
end Go.Proofs.Ytibckdnfgopghaa
