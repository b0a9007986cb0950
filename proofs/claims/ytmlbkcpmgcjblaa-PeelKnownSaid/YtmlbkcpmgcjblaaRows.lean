/-
  No cell of these rows narrows 'for every input' (looked for: loops, veiled, ifaces, maps, wideKeys, modest, calm, conditions, laid).
  DERIVED. THE GIVEN ROWS OF THIS SEAT. 15 by the template 'for every input the law returns true; each argument reads behind the call as it read before'; 0 by the template 'total and deterministic' (their statements: YtmlbkcpmgcjblaaTotals.lean).
  GIVEN WITH THE SEED: the statements are not yours to turn. If you find one false, say at which input.
  Laid BY PROGRAM, IN A SANDBOX (cutbox-rows.mjs): the forced cells as the released guide's own fill.sh prints them over the translation 41dafa8ceafedc11… (all of the seat's roots in one cut). By AI agents, Wed Nov 11 2026. No macro, syntax, notation, axiom, sorry.
-/
import Derived.Test.YtmlbkcpmgcjblaaChecked
import GoSem.Claim
import GoSem.ClaimJoined
import GoSem.ClaimMapViews
import Derived.JoinedTies
import Derived.KernelRfl
namespace Go.Proofs.Ytmlbkcpmgcjblaa
/- THE CELL 'sum', in the pinned program and in every row, IS THE sha256 OF THE DUMP (.gsa) THAT YtmlbkcpmgcjblaaProg.lean LOADS. Nothing in Lean hashes anything: it is a label: what it is worth is what the hold of that sum in a sandbox is worth. -/
noncomputable def Try.pinned : Pinned := { name := "ytmlbkcpmgcjblaa", sum := "41dafa8ceafedc115bb1e172ae96af954cb3c596e50adba02becd2ad0ed12972", checked := Try.checked }
namespace Rows
def none {H : Type} : Left H := { results := [], args := [] }

/-- 'tallymanlaw10.SetLaws': WHATEVER THE INPUT: true; the input reads as it did. -/
def setLawsSpec : ChangeSpec := { name := "setLaws", fn := fun _ => fun
  | [d1, d2] => { results := [.lit (.bool true)], args := [d1, d2] }
  | _ => none }
def setLawsRow : OpenClaim := { program := "ytmlbkcpmgcjblaa", sum := "41dafa8ceafedc115bb1e172ae96af954cb3c596e50adba02becd2ad0ed12972", func := "tallyman/tallymanlaw10.SetLaws", spec := "setLaws", inPlace := ["internal/bytealg.Compare"], unfollowed := true, recurses := true, plainKeys := false, apart := false }
def SetLawsSaid : Prop := setLawsRow.holds Try.pinned (OpenSpec.ofChange setLawsSpec)

/-- ITS FALSE NEIGHBOUR: 'it returns false'. Refute it at one input. -/
def setLawsWrong : ChangeSpec := { name := "setLaws", fn := fun _ => fun
  | [d1, d2] => { results := [.lit (.bool false)], args := [d1, d2] }
  | _ => none }
def SetLawsWrongFalsely : Prop := setLawsRow.holds Try.pinned (OpenSpec.ofChange setLawsWrong)

/-- 'tallymanlaw10.SetParts': WHATEVER THE INPUT: true; the input reads as it did. -/
def setPartsSpec : ChangeSpec := { name := "setParts", fn := fun _ => fun
  | [d1, d2] => { results := [.lit (.bool true)], args := [d1, d2] }
  | _ => none }
def setPartsRow : OpenClaim := { program := "ytmlbkcpmgcjblaa", sum := "41dafa8ceafedc115bb1e172ae96af954cb3c596e50adba02becd2ad0ed12972", func := "tallyman/tallymanlaw10.SetParts", spec := "setParts", inPlace := ["internal/bytealg.Compare"], unfollowed := true, recurses := true, plainKeys := false, apart := false }
def SetPartsSaid : Prop := setPartsRow.holds Try.pinned (OpenSpec.ofChange setPartsSpec)

/-- ITS FALSE NEIGHBOUR: 'it returns false'. Refute it at one input. -/
def setPartsWrong : ChangeSpec := { name := "setParts", fn := fun _ => fun
  | [d1, d2] => { results := [.lit (.bool false)], args := [d1, d2] }
  | _ => none }
def SetPartsWrongFalsely : Prop := setPartsRow.holds Try.pinned (OpenSpec.ofChange setPartsWrong)

/-- 'tallymanlaw10.SetAdds': WHATEVER THE INPUT: true; the input reads as it did. -/
def setAddsSpec : ChangeSpec := { name := "setAdds", fn := fun _ => fun
  | [d1, d2] => { results := [.lit (.bool true)], args := [d1, d2] }
  | _ => none }
def setAddsRow : OpenClaim := { program := "ytmlbkcpmgcjblaa", sum := "41dafa8ceafedc115bb1e172ae96af954cb3c596e50adba02becd2ad0ed12972", func := "tallyman/tallymanlaw10.SetAdds", spec := "setAdds", inPlace := ["internal/bytealg.Compare", "internal/bytealg.MakeNoZero"], unfollowed := true, recurses := true, plainKeys := false, apart := false }
def SetAddsSaid : Prop := setAddsRow.holds Try.pinned (OpenSpec.ofChange setAddsSpec)

/-- ITS FALSE NEIGHBOUR: 'it returns false'. Refute it at one input. -/
def setAddsWrong : ChangeSpec := { name := "setAdds", fn := fun _ => fun
  | [d1, d2] => { results := [.lit (.bool false)], args := [d1, d2] }
  | _ => none }
def SetAddsWrongFalsely : Prop := setAddsRow.holds Try.pinned (OpenSpec.ofChange setAddsWrong)

/-- 'tallymanlaw15.TableKnown': WHATEVER THE INPUT: true; the input reads as it did. -/
def tableKnownSpec : ChangeSpec := { name := "tableKnown", fn := fun _ => fun
  | [] => { results := [.lit (.bool true)], args := [] }
  | _ => none }
def tableKnownRow : OpenClaim := { program := "ytmlbkcpmgcjblaa", sum := "41dafa8ceafedc115bb1e172ae96af954cb3c596e50adba02becd2ad0ed12972", func := "tallyman/tallymanlaw15.TableKnown", spec := "tableKnown", inPlace := ["internal/bytealg.MakeNoZero", "internal/bytealg.Compare"], unfollowed := true, recurses := true, plainKeys := false, apart := false }
def TableKnownSaid : Prop := tableKnownRow.holds Try.pinned (OpenSpec.ofChange tableKnownSpec)

/-- ITS FALSE NEIGHBOUR: 'it returns false'. Refute it at one input. -/
def tableKnownWrong : ChangeSpec := { name := "tableKnown", fn := fun _ => fun
  | [] => { results := [.lit (.bool false)], args := [] }
  | _ => none }
def TableKnownWrongFalsely : Prop := tableKnownRow.holds Try.pinned (OpenSpec.ofChange tableKnownWrong)

/-- 'tallymanlaw15.TableSays': WHATEVER THE INPUT: true; the input reads as it did. -/
def tableSaysSpec : ChangeSpec := { name := "tableSays", fn := fun _ => fun
  | [d1, d2, d3, d4, d5] => { results := [.lit (.bool true)], args := [d1, d2, d3, d4, d5] }
  | _ => none }
def tableSaysRow : OpenClaim := { program := "ytmlbkcpmgcjblaa", sum := "41dafa8ceafedc115bb1e172ae96af954cb3c596e50adba02becd2ad0ed12972", func := "tallyman/tallymanlaw15.TableSays", spec := "tableSays", inPlace := ["internal/bytealg.MakeNoZero", "internal/bytealg.Compare"], unfollowed := true, recurses := true, plainKeys := false, apart := false }
def TableSaysSaid : Prop := tableSaysRow.holds Try.pinned (OpenSpec.ofChange tableSaysSpec)

/-- ITS FALSE NEIGHBOUR: 'it returns false'. Refute it at one input. -/
def tableSaysWrong : ChangeSpec := { name := "tableSays", fn := fun _ => fun
  | [d1, d2, d3, d4, d5] => { results := [.lit (.bool false)], args := [d1, d2, d3, d4, d5] }
  | _ => none }
def TableSaysWrongFalsely : Prop := tableSaysRow.holds Try.pinned (OpenSpec.ofChange tableSaysWrong)

/-- 'tallymanlaw15.TableOrder': WHATEVER THE INPUT: true; the input reads as it did. -/
def tableOrderSpec : ChangeSpec := { name := "tableOrder", fn := fun _ => fun
  | [d1, d2, d3, d4] => { results := [.lit (.bool true)], args := [d1, d2, d3, d4] }
  | _ => none }
def tableOrderRow : OpenClaim := { program := "ytmlbkcpmgcjblaa", sum := "41dafa8ceafedc115bb1e172ae96af954cb3c596e50adba02becd2ad0ed12972", func := "tallyman/tallymanlaw15.TableOrder", spec := "tableOrder", inPlace := ["internal/bytealg.MakeNoZero", "internal/bytealg.Compare"], unfollowed := true, recurses := true, plainKeys := false, apart := false }
def TableOrderSaid : Prop := tableOrderRow.holds Try.pinned (OpenSpec.ofChange tableOrderSpec)

/-- ITS FALSE NEIGHBOUR: 'it returns false'. Refute it at one input. -/
def tableOrderWrong : ChangeSpec := { name := "tableOrder", fn := fun _ => fun
  | [d1, d2, d3, d4] => { results := [.lit (.bool false)], args := [d1, d2, d3, d4] }
  | _ => none }
def TableOrderWrongFalsely : Prop := tableOrderRow.holds Try.pinned (OpenSpec.ofChange tableOrderWrong)

/-- 'tallymanlaw10.SetKnown': WHATEVER THE INPUT: true; the input reads as it did. -/
def setKnownSpec : ChangeSpec := { name := "setKnown", fn := fun _ => fun
  | [] => { results := [.lit (.bool true)], args := [] }
  | _ => none }
def setKnownRow : OpenClaim := { program := "ytmlbkcpmgcjblaa", sum := "41dafa8ceafedc115bb1e172ae96af954cb3c596e50adba02becd2ad0ed12972", func := "tallyman/tallymanlaw10.SetKnown", spec := "setKnown", inPlace := ["internal/bytealg.Compare", "internal/bytealg.MakeNoZero"], unfollowed := true, recurses := true, plainKeys := false, apart := false }
def SetKnownSaid : Prop := setKnownRow.holds Try.pinned (OpenSpec.ofChange setKnownSpec)

/-- ITS FALSE NEIGHBOUR: 'it returns false'. Refute it at one input. -/
def setKnownWrong : ChangeSpec := { name := "setKnown", fn := fun _ => fun
  | [] => { results := [.lit (.bool false)], args := [] }
  | _ => none }
def SetKnownWrongFalsely : Prop := setKnownRow.holds Try.pinned (OpenSpec.ofChange setKnownWrong)

/-- 'tallymanlaw10.SetSays': WHATEVER THE INPUT: true; the input reads as it did. -/
def setSaysSpec : ChangeSpec := { name := "setSays", fn := fun _ => fun
  | [d1, d2, d3] => { results := [.lit (.bool true)], args := [d1, d2, d3] }
  | _ => none }
def setSaysRow : OpenClaim := { program := "ytmlbkcpmgcjblaa", sum := "41dafa8ceafedc115bb1e172ae96af954cb3c596e50adba02becd2ad0ed12972", func := "tallyman/tallymanlaw10.SetSays", spec := "setSays", inPlace := ["internal/bytealg.Compare", "internal/bytealg.MakeNoZero"], unfollowed := true, recurses := true, plainKeys := false, apart := false }
def SetSaysSaid : Prop := setSaysRow.holds Try.pinned (OpenSpec.ofChange setSaysSpec)

/-- ITS FALSE NEIGHBOUR: 'it returns false'. Refute it at one input. -/
def setSaysWrong : ChangeSpec := { name := "setSays", fn := fun _ => fun
  | [d1, d2, d3] => { results := [.lit (.bool false)], args := [d1, d2, d3] }
  | _ => none }
def SetSaysWrongFalsely : Prop := setSaysRow.holds Try.pinned (OpenSpec.ofChange setSaysWrong)

/-- 'tallymanlaw15.TableApart': WHATEVER THE INPUT: true; the input reads as it did. -/
def tableApartSpec : ChangeSpec := { name := "tableApart", fn := fun _ => fun
  | [d1, d2, d3, d4] => { results := [.lit (.bool true)], args := [d1, d2, d3, d4] }
  | _ => none }
def tableApartRow : OpenClaim := { program := "ytmlbkcpmgcjblaa", sum := "41dafa8ceafedc115bb1e172ae96af954cb3c596e50adba02becd2ad0ed12972", func := "tallyman/tallymanlaw15.TableApart", spec := "tableApart", inPlace := ["internal/bytealg.MakeNoZero", "internal/bytealg.Compare"], unfollowed := true, recurses := true, plainKeys := false, apart := false }
def TableApartSaid : Prop := tableApartRow.holds Try.pinned (OpenSpec.ofChange tableApartSpec)

/-- ITS FALSE NEIGHBOUR: 'it returns false'. Refute it at one input. -/
def tableApartWrong : ChangeSpec := { name := "tableApart", fn := fun _ => fun
  | [d1, d2, d3, d4] => { results := [.lit (.bool false)], args := [d1, d2, d3, d4] }
  | _ => none }
def TableApartWrongFalsely : Prop := tableApartRow.holds Try.pinned (OpenSpec.ofChange tableApartWrong)

/-- 'tallymanlaw16.PeelRoom': WHATEVER THE INPUT: true; the input reads as it did. -/
def peelRoomSpec : ChangeSpec := { name := "peelRoom", fn := fun _ => fun
  | [d1, d2, d3, d4] => { results := [.lit (.bool true)], args := [d1, d2, d3, d4] }
  | _ => none }
def peelRoomRow : OpenClaim := { program := "ytmlbkcpmgcjblaa", sum := "41dafa8ceafedc115bb1e172ae96af954cb3c596e50adba02becd2ad0ed12972", func := "tallyman/tallymanlaw16.PeelRoom", spec := "peelRoom", inPlace := ["internal/bytealg.MakeNoZero", "internal/bytealg.Compare"], unfollowed := true, recurses := true, plainKeys := false, apart := false }
def PeelRoomSaid : Prop := peelRoomRow.holds Try.pinned (OpenSpec.ofChange peelRoomSpec)

/-- ITS FALSE NEIGHBOUR: 'it returns false'. Refute it at one input. -/
def peelRoomWrong : ChangeSpec := { name := "peelRoom", fn := fun _ => fun
  | [d1, d2, d3, d4] => { results := [.lit (.bool false)], args := [d1, d2, d3, d4] }
  | _ => none }
def PeelRoomWrongFalsely : Prop := peelRoomRow.holds Try.pinned (OpenSpec.ofChange peelRoomWrong)

/-- 'tallymanlaw16.PeelSelf': WHATEVER THE INPUT: true; the input reads as it did. -/
def peelSelfSpec : ChangeSpec := { name := "peelSelf", fn := fun _ => fun
  | [d1, d2, d3] => { results := [.lit (.bool true)], args := [d1, d2, d3] }
  | _ => none }
def peelSelfRow : OpenClaim := { program := "ytmlbkcpmgcjblaa", sum := "41dafa8ceafedc115bb1e172ae96af954cb3c596e50adba02becd2ad0ed12972", func := "tallyman/tallymanlaw16.PeelSelf", spec := "peelSelf", inPlace := ["internal/bytealg.MakeNoZero", "internal/bytealg.Compare"], unfollowed := true, recurses := true, plainKeys := false, apart := false }
def PeelSelfSaid : Prop := peelSelfRow.holds Try.pinned (OpenSpec.ofChange peelSelfSpec)

/-- ITS FALSE NEIGHBOUR: 'it returns false'. Refute it at one input. -/
def peelSelfWrong : ChangeSpec := { name := "peelSelf", fn := fun _ => fun
  | [d1, d2, d3] => { results := [.lit (.bool false)], args := [d1, d2, d3] }
  | _ => none }
def PeelSelfWrongFalsely : Prop := peelSelfRow.holds Try.pinned (OpenSpec.ofChange peelSelfWrong)

/-- 'tallymanlaw16.PeelKnown': WHATEVER THE INPUT: true; the input reads as it did. -/
def peelKnownSpec : ChangeSpec := { name := "peelKnown", fn := fun _ => fun
  | [] => { results := [.lit (.bool true)], args := [] }
  | _ => none }
def peelKnownRow : OpenClaim := { program := "ytmlbkcpmgcjblaa", sum := "41dafa8ceafedc115bb1e172ae96af954cb3c596e50adba02becd2ad0ed12972", func := "tallyman/tallymanlaw16.PeelKnown", spec := "peelKnown", inPlace := ["internal/bytealg.MakeNoZero", "internal/bytealg.Compare"], unfollowed := true, recurses := true, plainKeys := false, apart := false }
def PeelKnownSaid : Prop := peelKnownRow.holds Try.pinned (OpenSpec.ofChange peelKnownSpec)

/-- ITS FALSE NEIGHBOUR: 'it returns false'. Refute it at one input. -/
def peelKnownWrong : ChangeSpec := { name := "peelKnown", fn := fun _ => fun
  | [] => { results := [.lit (.bool false)], args := [] }
  | _ => none }
def PeelKnownWrongFalsely : Prop := peelKnownRow.holds Try.pinned (OpenSpec.ofChange peelKnownWrong)

/-- 'tallymanlaw16.PeelAll': WHATEVER THE INPUT: true; the input reads as it did. -/
def peelAllSpec : ChangeSpec := { name := "peelAll", fn := fun _ => fun
  | [d1, d2, d3, d4] => { results := [.lit (.bool true)], args := [d1, d2, d3, d4] }
  | _ => none }
def peelAllRow : OpenClaim := { program := "ytmlbkcpmgcjblaa", sum := "41dafa8ceafedc115bb1e172ae96af954cb3c596e50adba02becd2ad0ed12972", func := "tallyman/tallymanlaw16.PeelAll", spec := "peelAll", inPlace := ["internal/bytealg.MakeNoZero", "internal/bytealg.Compare"], unfollowed := true, recurses := true, plainKeys := false, apart := false }
def PeelAllSaid : Prop := peelAllRow.holds Try.pinned (OpenSpec.ofChange peelAllSpec)

/-- ITS FALSE NEIGHBOUR: 'it returns false'. Refute it at one input. -/
def peelAllWrong : ChangeSpec := { name := "peelAll", fn := fun _ => fun
  | [d1, d2, d3, d4] => { results := [.lit (.bool false)], args := [d1, d2, d3, d4] }
  | _ => none }
def PeelAllWrongFalsely : Prop := peelAllRow.holds Try.pinned (OpenSpec.ofChange peelAllWrong)

/-- 'tallymanlaw16.PeelMakes': WHATEVER THE INPUT: true; the input reads as it did. -/
def peelMakesSpec : ChangeSpec := { name := "peelMakes", fn := fun _ => fun
  | [d1, d2, d3, d4, d5] => { results := [.lit (.bool true)], args := [d1, d2, d3, d4, d5] }
  | _ => none }
def peelMakesRow : OpenClaim := { program := "ytmlbkcpmgcjblaa", sum := "41dafa8ceafedc115bb1e172ae96af954cb3c596e50adba02becd2ad0ed12972", func := "tallyman/tallymanlaw16.PeelMakes", spec := "peelMakes", inPlace := ["internal/bytealg.MakeNoZero", "internal/bytealg.Compare"], unfollowed := true, recurses := true, plainKeys := false, apart := false }
def PeelMakesSaid : Prop := peelMakesRow.holds Try.pinned (OpenSpec.ofChange peelMakesSpec)

/-- ITS FALSE NEIGHBOUR: 'it returns false'. Refute it at one input. -/
def peelMakesWrong : ChangeSpec := { name := "peelMakes", fn := fun _ => fun
  | [d1, d2, d3, d4, d5] => { results := [.lit (.bool false)], args := [d1, d2, d3, d4, d5] }
  | _ => none }
def PeelMakesWrongFalsely : Prop := peelMakesRow.holds Try.pinned (OpenSpec.ofChange peelMakesWrong)

/-- 'tallymanlaw16.PeelOne': WHATEVER THE INPUT: true; the input reads as it did. -/
def peelOneSpec : ChangeSpec := { name := "peelOne", fn := fun _ => fun
  | [d1, d2, d3, d4] => { results := [.lit (.bool true)], args := [d1, d2, d3, d4] }
  | _ => none }
def peelOneRow : OpenClaim := { program := "ytmlbkcpmgcjblaa", sum := "41dafa8ceafedc115bb1e172ae96af954cb3c596e50adba02becd2ad0ed12972", func := "tallyman/tallymanlaw16.PeelOne", spec := "peelOne", inPlace := ["internal/bytealg.MakeNoZero", "internal/bytealg.Compare"], unfollowed := true, recurses := true, plainKeys := false, apart := false }
def PeelOneSaid : Prop := peelOneRow.holds Try.pinned (OpenSpec.ofChange peelOneSpec)

/-- ITS FALSE NEIGHBOUR: 'it returns false'. Refute it at one input. -/
def peelOneWrong : ChangeSpec := { name := "peelOne", fn := fun _ => fun
  | [d1, d2, d3, d4] => { results := [.lit (.bool false)], args := [d1, d2, d3, d4] }
  | _ => none }
def PeelOneWrongFalsely : Prop := peelOneRow.holds Try.pinned (OpenSpec.ofChange peelOneWrong)

/- THE SECOND FORM. 'bulk': how many values and letters a reading holds, each counted each time it is reached (what is shared counts as often as it is met; a slice's spare places count too). A statement '..UptoSaid' is the law's where the arguments, and the package variables that the reading takes, are together of bulk at most 1048576: NARROWER than '..Said'. Prove '..Said' where nothing that the law and all that it calls make is longer than what came in: it says more and counts as full. Else prove '..UptoSaid'. A law counts once. -/
mutual
def uptoBulk {H : Type} : DataW H → Nat
  | .lit (.string bytes) => bytes.length + 1
  | .lit _ => 1
  | .nil => 1
  | .ptr d => uptoBulk d + 1
  | .slice elems spare => uptoBulkAll elems + uptoBulkAll spare + 1
  | .agg parts => uptoBulkAll parts + 1
  | .iface _ d => uptoBulk d + 1
  | .map entries => uptoBulkEntries entries + 1
  | .held _ => 1
def uptoBulkAll {H : Type} : List (DataW H) → Nat
  | [] => 0
  | d :: r => uptoBulk d + uptoBulkAll r
def uptoBulkEntries {H : Type} : List (Lit × DataW H) → Nat
  | [] => 0
  | x :: r => uptoBulkEntry x + uptoBulkEntries r
def uptoBulkEntry {H : Type} : Lit × DataW H → Nat
  | (.string bytes, d) => bytes.length + uptoBulk d + 1
  | (_, d) => uptoBulk d + 1
 end
def uptoSmall : (H : Type) → List (DataW H) → Bool := fun _ ds => decide (uptoBulkAll ds ≤ 1048576)
def OpenSpec.upto (s : _root_.Go.ChangeSpec) : _root_.Go.OpenSpec := { _root_.Go.OpenSpec.ofChange s with cond := some uptoSmall }

/-- 'tallymanlaw10.SetLaws', WHERE WHAT IT READS IS OF BULK AT MOST 1048576: true; the input reads as it did. -/
def setLawsUptoRow : OpenClaim := { program := "ytmlbkcpmgcjblaa", sum := "41dafa8ceafedc115bb1e172ae96af954cb3c596e50adba02becd2ad0ed12972", func := "tallyman/tallymanlaw10.SetLaws", spec := "setLaws", inPlace := ["internal/bytealg.Compare"], unfollowed := true, recurses := true, plainKeys := false, apart := false, narrowed := true }
def SetLawsUptoSaid : Prop := setLawsUptoRow.holds Try.pinned (OpenSpec.upto setLawsSpec)

/-- 'tallymanlaw10.SetParts', WHERE WHAT IT READS IS OF BULK AT MOST 1048576: true; the input reads as it did. -/
def setPartsUptoRow : OpenClaim := { program := "ytmlbkcpmgcjblaa", sum := "41dafa8ceafedc115bb1e172ae96af954cb3c596e50adba02becd2ad0ed12972", func := "tallyman/tallymanlaw10.SetParts", spec := "setParts", inPlace := ["internal/bytealg.Compare"], unfollowed := true, recurses := true, plainKeys := false, apart := false, narrowed := true }
def SetPartsUptoSaid : Prop := setPartsUptoRow.holds Try.pinned (OpenSpec.upto setPartsSpec)

/-- 'tallymanlaw10.SetAdds', WHERE WHAT IT READS IS OF BULK AT MOST 1048576: true; the input reads as it did. -/
def setAddsUptoRow : OpenClaim := { program := "ytmlbkcpmgcjblaa", sum := "41dafa8ceafedc115bb1e172ae96af954cb3c596e50adba02becd2ad0ed12972", func := "tallyman/tallymanlaw10.SetAdds", spec := "setAdds", inPlace := ["internal/bytealg.Compare", "internal/bytealg.MakeNoZero"], unfollowed := true, recurses := true, plainKeys := false, apart := false, narrowed := true }
def SetAddsUptoSaid : Prop := setAddsUptoRow.holds Try.pinned (OpenSpec.upto setAddsSpec)

/-- 'tallymanlaw15.TableKnown', WHERE WHAT IT READS IS OF BULK AT MOST 1048576: true; the input reads as it did. -/
def tableKnownUptoRow : OpenClaim := { program := "ytmlbkcpmgcjblaa", sum := "41dafa8ceafedc115bb1e172ae96af954cb3c596e50adba02becd2ad0ed12972", func := "tallyman/tallymanlaw15.TableKnown", spec := "tableKnown", inPlace := ["internal/bytealg.MakeNoZero", "internal/bytealg.Compare"], unfollowed := true, recurses := true, plainKeys := false, apart := false, narrowed := true }
def TableKnownUptoSaid : Prop := tableKnownUptoRow.holds Try.pinned (OpenSpec.upto tableKnownSpec)

/-- 'tallymanlaw15.TableSays', WHERE WHAT IT READS IS OF BULK AT MOST 1048576: true; the input reads as it did. -/
def tableSaysUptoRow : OpenClaim := { program := "ytmlbkcpmgcjblaa", sum := "41dafa8ceafedc115bb1e172ae96af954cb3c596e50adba02becd2ad0ed12972", func := "tallyman/tallymanlaw15.TableSays", spec := "tableSays", inPlace := ["internal/bytealg.MakeNoZero", "internal/bytealg.Compare"], unfollowed := true, recurses := true, plainKeys := false, apart := false, narrowed := true }
def TableSaysUptoSaid : Prop := tableSaysUptoRow.holds Try.pinned (OpenSpec.upto tableSaysSpec)

/-- 'tallymanlaw15.TableOrder', WHERE WHAT IT READS IS OF BULK AT MOST 1048576: true; the input reads as it did. -/
def tableOrderUptoRow : OpenClaim := { program := "ytmlbkcpmgcjblaa", sum := "41dafa8ceafedc115bb1e172ae96af954cb3c596e50adba02becd2ad0ed12972", func := "tallyman/tallymanlaw15.TableOrder", spec := "tableOrder", inPlace := ["internal/bytealg.MakeNoZero", "internal/bytealg.Compare"], unfollowed := true, recurses := true, plainKeys := false, apart := false, narrowed := true }
def TableOrderUptoSaid : Prop := tableOrderUptoRow.holds Try.pinned (OpenSpec.upto tableOrderSpec)

/-- 'tallymanlaw10.SetKnown', WHERE WHAT IT READS IS OF BULK AT MOST 1048576: true; the input reads as it did. -/
def setKnownUptoRow : OpenClaim := { program := "ytmlbkcpmgcjblaa", sum := "41dafa8ceafedc115bb1e172ae96af954cb3c596e50adba02becd2ad0ed12972", func := "tallyman/tallymanlaw10.SetKnown", spec := "setKnown", inPlace := ["internal/bytealg.Compare", "internal/bytealg.MakeNoZero"], unfollowed := true, recurses := true, plainKeys := false, apart := false, narrowed := true }
def SetKnownUptoSaid : Prop := setKnownUptoRow.holds Try.pinned (OpenSpec.upto setKnownSpec)

/-- 'tallymanlaw10.SetSays', WHERE WHAT IT READS IS OF BULK AT MOST 1048576: true; the input reads as it did. -/
def setSaysUptoRow : OpenClaim := { program := "ytmlbkcpmgcjblaa", sum := "41dafa8ceafedc115bb1e172ae96af954cb3c596e50adba02becd2ad0ed12972", func := "tallyman/tallymanlaw10.SetSays", spec := "setSays", inPlace := ["internal/bytealg.Compare", "internal/bytealg.MakeNoZero"], unfollowed := true, recurses := true, plainKeys := false, apart := false, narrowed := true }
def SetSaysUptoSaid : Prop := setSaysUptoRow.holds Try.pinned (OpenSpec.upto setSaysSpec)

/-- 'tallymanlaw15.TableApart', WHERE WHAT IT READS IS OF BULK AT MOST 1048576: true; the input reads as it did. -/
def tableApartUptoRow : OpenClaim := { program := "ytmlbkcpmgcjblaa", sum := "41dafa8ceafedc115bb1e172ae96af954cb3c596e50adba02becd2ad0ed12972", func := "tallyman/tallymanlaw15.TableApart", spec := "tableApart", inPlace := ["internal/bytealg.MakeNoZero", "internal/bytealg.Compare"], unfollowed := true, recurses := true, plainKeys := false, apart := false, narrowed := true }
def TableApartUptoSaid : Prop := tableApartUptoRow.holds Try.pinned (OpenSpec.upto tableApartSpec)

/-- 'tallymanlaw16.PeelRoom', WHERE WHAT IT READS IS OF BULK AT MOST 1048576: true; the input reads as it did. -/
def peelRoomUptoRow : OpenClaim := { program := "ytmlbkcpmgcjblaa", sum := "41dafa8ceafedc115bb1e172ae96af954cb3c596e50adba02becd2ad0ed12972", func := "tallyman/tallymanlaw16.PeelRoom", spec := "peelRoom", inPlace := ["internal/bytealg.MakeNoZero", "internal/bytealg.Compare"], unfollowed := true, recurses := true, plainKeys := false, apart := false, narrowed := true }
def PeelRoomUptoSaid : Prop := peelRoomUptoRow.holds Try.pinned (OpenSpec.upto peelRoomSpec)

/-- 'tallymanlaw16.PeelSelf', WHERE WHAT IT READS IS OF BULK AT MOST 1048576: true; the input reads as it did. -/
def peelSelfUptoRow : OpenClaim := { program := "ytmlbkcpmgcjblaa", sum := "41dafa8ceafedc115bb1e172ae96af954cb3c596e50adba02becd2ad0ed12972", func := "tallyman/tallymanlaw16.PeelSelf", spec := "peelSelf", inPlace := ["internal/bytealg.MakeNoZero", "internal/bytealg.Compare"], unfollowed := true, recurses := true, plainKeys := false, apart := false, narrowed := true }
def PeelSelfUptoSaid : Prop := peelSelfUptoRow.holds Try.pinned (OpenSpec.upto peelSelfSpec)

/-- 'tallymanlaw16.PeelKnown', WHERE WHAT IT READS IS OF BULK AT MOST 1048576: true; the input reads as it did. -/
def peelKnownUptoRow : OpenClaim := { program := "ytmlbkcpmgcjblaa", sum := "41dafa8ceafedc115bb1e172ae96af954cb3c596e50adba02becd2ad0ed12972", func := "tallyman/tallymanlaw16.PeelKnown", spec := "peelKnown", inPlace := ["internal/bytealg.MakeNoZero", "internal/bytealg.Compare"], unfollowed := true, recurses := true, plainKeys := false, apart := false, narrowed := true }
def PeelKnownUptoSaid : Prop := peelKnownUptoRow.holds Try.pinned (OpenSpec.upto peelKnownSpec)

/-- 'tallymanlaw16.PeelAll', WHERE WHAT IT READS IS OF BULK AT MOST 1048576: true; the input reads as it did. -/
def peelAllUptoRow : OpenClaim := { program := "ytmlbkcpmgcjblaa", sum := "41dafa8ceafedc115bb1e172ae96af954cb3c596e50adba02becd2ad0ed12972", func := "tallyman/tallymanlaw16.PeelAll", spec := "peelAll", inPlace := ["internal/bytealg.MakeNoZero", "internal/bytealg.Compare"], unfollowed := true, recurses := true, plainKeys := false, apart := false, narrowed := true }
def PeelAllUptoSaid : Prop := peelAllUptoRow.holds Try.pinned (OpenSpec.upto peelAllSpec)

/-- 'tallymanlaw16.PeelMakes', WHERE WHAT IT READS IS OF BULK AT MOST 1048576: true; the input reads as it did. -/
def peelMakesUptoRow : OpenClaim := { program := "ytmlbkcpmgcjblaa", sum := "41dafa8ceafedc115bb1e172ae96af954cb3c596e50adba02becd2ad0ed12972", func := "tallyman/tallymanlaw16.PeelMakes", spec := "peelMakes", inPlace := ["internal/bytealg.MakeNoZero", "internal/bytealg.Compare"], unfollowed := true, recurses := true, plainKeys := false, apart := false, narrowed := true }
def PeelMakesUptoSaid : Prop := peelMakesUptoRow.holds Try.pinned (OpenSpec.upto peelMakesSpec)

/-- 'tallymanlaw16.PeelOne', WHERE WHAT IT READS IS OF BULK AT MOST 1048576: true; the input reads as it did. -/
def peelOneUptoRow : OpenClaim := { program := "ytmlbkcpmgcjblaa", sum := "41dafa8ceafedc115bb1e172ae96af954cb3c596e50adba02becd2ad0ed12972", func := "tallyman/tallymanlaw16.PeelOne", spec := "peelOne", inPlace := ["internal/bytealg.MakeNoZero", "internal/bytealg.Compare"], unfollowed := true, recurses := true, plainKeys := false, apart := false, narrowed := true }
def PeelOneUptoSaid : Prop := peelOneUptoRow.holds Try.pinned (OpenSpec.upto peelOneSpec)

end Rows
end Go.Proofs.Ytmlbkcpmgcjblaa
