/-
  No cell of these rows narrows 'for every input' (looked for: loops, veiled, ifaces, maps, wideKeys, modest, calm, conditions, laid).
  DERIVED. THE GIVEN ROWS OF THIS SEAT. 4 by the template 'for every input the law returns true; each argument reads behind the call as it read before'; 0 by the template 'total and deterministic' (their statements: YtbjlmhbpcopfbaaTotals.lean).
  GIVEN WITH THE SEED: the statements are not yours to turn. If you find one false, say at which input.
  Laid BY PROGRAM, IN A SANDBOX (cutbox-rows.mjs): the forced cells as the released guide's own fill.sh prints them over the translation 4c8e1a92a016951d… (all of the seat's roots in one cut). By AI agents, Wed Nov 11 2026. No macro, syntax, notation, axiom, sorry.
-/
import Derived.Test.YtbjlmhbpcopfbaaChecked
import GoSem.Claim
import GoSem.ClaimJoined
import GoSem.ClaimMapViews
import Derived.JoinedTies
import Derived.KernelRfl
namespace Go.Proofs.Ytbjlmhbpcopfbaa
/- THE CELL 'sum', in the pinned program and in every row, IS THE sha256 OF THE DUMP (.gsa) THAT YtbjlmhbpcopfbaaProg.lean LOADS. Nothing in Lean hashes anything: it is a label: what it is worth is what the hold of that sum in a sandbox is worth. -/
noncomputable def Try.pinned : Pinned := { name := "ytbjlmhbpcopfbaa", sum := "4c8e1a92a016951df15d7f7fbcf6ad87487c8c46a8e4f3683a19c438311fc284", checked := Try.checked }
namespace Rows
def none {H : Type} : Left H := { results := [], args := [] }

/-- 'tallymanlaw11.ChunkShares': WHATEVER THE INPUT: true; the input reads as it did. -/
def chunkSharesSpec : ChangeSpec := { name := "chunkShares", fn := fun _ => fun
  | [d1, d2] => { results := [.lit (.bool true)], args := [d1, d2] }
  | _ => none }
def chunkSharesRow : OpenClaim := { program := "ytbjlmhbpcopfbaa", sum := "4c8e1a92a016951df15d7f7fbcf6ad87487c8c46a8e4f3683a19c438311fc284", func := "tallyman/tallymanlaw11.ChunkShares", spec := "chunkShares", inPlace := ["internal/bytealg.MakeNoZero"], apart := false }
def ChunkSharesSaid : Prop := chunkSharesRow.holds Try.pinned (OpenSpec.ofChange chunkSharesSpec)

/-- ITS FALSE NEIGHBOUR: 'it returns false'. Refute it at one input. -/
def chunkSharesWrong : ChangeSpec := { name := "chunkShares", fn := fun _ => fun
  | [d1, d2] => { results := [.lit (.bool false)], args := [d1, d2] }
  | _ => none }
def ChunkSharesWrongFalsely : Prop := chunkSharesRow.holds Try.pinned (OpenSpec.ofChange chunkSharesWrong)

/-- 'tallymanlaw11.ChunkSays': WHATEVER THE INPUT: true; the input reads as it did. -/
def chunkSaysSpec : ChangeSpec := { name := "chunkSays", fn := fun _ => fun
  | [d1, d2, d3, d4] => { results := [.lit (.bool true)], args := [d1, d2, d3, d4] }
  | _ => none }
def chunkSaysRow : OpenClaim := { program := "ytbjlmhbpcopfbaa", sum := "4c8e1a92a016951df15d7f7fbcf6ad87487c8c46a8e4f3683a19c438311fc284", func := "tallyman/tallymanlaw11.ChunkSays", spec := "chunkSays", inPlace := ["internal/bytealg.MakeNoZero", "internal/bytealg.Compare"], unfollowed := true, recurses := true, apart := false }
def ChunkSaysSaid : Prop := chunkSaysRow.holds Try.pinned (OpenSpec.ofChange chunkSaysSpec)

/-- ITS FALSE NEIGHBOUR: 'it returns false'. Refute it at one input. -/
def chunkSaysWrong : ChangeSpec := { name := "chunkSays", fn := fun _ => fun
  | [d1, d2, d3, d4] => { results := [.lit (.bool false)], args := [d1, d2, d3, d4] }
  | _ => none }
def ChunkSaysWrongFalsely : Prop := chunkSaysRow.holds Try.pinned (OpenSpec.ofChange chunkSaysWrong)

/-- 'tallymanlaw11.ChunkKnown': WHATEVER THE INPUT: true; the input reads as it did. -/
def chunkKnownSpec : ChangeSpec := { name := "chunkKnown", fn := fun _ => fun
  | [] => { results := [.lit (.bool true)], args := [] }
  | _ => none }
def chunkKnownRow : OpenClaim := { program := "ytbjlmhbpcopfbaa", sum := "4c8e1a92a016951df15d7f7fbcf6ad87487c8c46a8e4f3683a19c438311fc284", func := "tallyman/tallymanlaw11.ChunkKnown", spec := "chunkKnown", inPlace := ["internal/bytealg.MakeNoZero", "internal/bytealg.Compare"], unfollowed := true, recurses := true, apart := false }
def ChunkKnownSaid : Prop := chunkKnownRow.holds Try.pinned (OpenSpec.ofChange chunkKnownSpec)

/-- ITS FALSE NEIGHBOUR: 'it returns false'. Refute it at one input. -/
def chunkKnownWrong : ChangeSpec := { name := "chunkKnown", fn := fun _ => fun
  | [] => { results := [.lit (.bool false)], args := [] }
  | _ => none }
def ChunkKnownWrongFalsely : Prop := chunkKnownRow.holds Try.pinned (OpenSpec.ofChange chunkKnownWrong)

/-- 'tallymanlaw11.ChunkAll': WHATEVER THE INPUT: true; the input reads as it did. -/
def chunkAllSpec : ChangeSpec := { name := "chunkAll", fn := fun _ => fun
  | [d] => { results := [.lit (.bool true)], args := [d] }
  | _ => none }
def chunkAllRow : OpenClaim := { program := "ytbjlmhbpcopfbaa", sum := "4c8e1a92a016951df15d7f7fbcf6ad87487c8c46a8e4f3683a19c438311fc284", func := "tallyman/tallymanlaw11.ChunkAll", spec := "chunkAll", inPlace := ["internal/bytealg.MakeNoZero", "internal/bytealg.Compare"], unfollowed := true, recurses := true, apart := false }
def ChunkAllSaid : Prop := chunkAllRow.holds Try.pinned (OpenSpec.ofChange chunkAllSpec)

/-- ITS FALSE NEIGHBOUR: 'it returns false'. Refute it at one input. -/
def chunkAllWrong : ChangeSpec := { name := "chunkAll", fn := fun _ => fun
  | [d] => { results := [.lit (.bool false)], args := [d] }
  | _ => none }
def ChunkAllWrongFalsely : Prop := chunkAllRow.holds Try.pinned (OpenSpec.ofChange chunkAllWrong)

/- THE SECOND FORM. 'bulk': how many values and letters a reading holds, each counted each time it is reached (what is shared counts as often as it is met; a slice's spare places count too). A statement '..UptoSaid' is the law's where the arguments, and the package variables that the reading takes, are together of bulk at most 1048576: NARROWER than '..Said'. Prove '..Said' where nothing that the law and all that it calls make is longer than what came in: it says more and counts as full. Else prove '..UptoSaid'. A law counts once. -/
mutual
def uptoBulk {H : Type} : DataW H → Nat
  | .lit (.string bytes) => bytes.length + 1
  | .lit _ => 1
  | .nil => 1
  | .ptr d => uptoBulk d + 1
  | .slice elems spare => uptoBulkAll elems + uptoBulkAll spare + 1
  | .agg parts => uptoBulkAll parts + 1
  | .iface _ d => uptoBulk d + 1
  | .map entries => uptoBulkEntries entries + 1
  | .held _ => 1
def uptoBulkAll {H : Type} : List (DataW H) → Nat
  | [] => 0
  | d :: r => uptoBulk d + uptoBulkAll r
def uptoBulkEntries {H : Type} : List (Lit × DataW H) → Nat
  | [] => 0
  | x :: r => uptoBulkEntry x + uptoBulkEntries r
def uptoBulkEntry {H : Type} : Lit × DataW H → Nat
  | (.string bytes, d) => bytes.length + uptoBulk d + 1
  | (_, d) => uptoBulk d + 1
 end
def uptoSmall : (H : Type) → List (DataW H) → Bool := fun _ ds => decide (uptoBulkAll ds ≤ 1048576)
def OpenSpec.upto (s : _root_.Go.ChangeSpec) : _root_.Go.OpenSpec := { _root_.Go.OpenSpec.ofChange s with cond := some uptoSmall }

/-- 'tallymanlaw11.ChunkShares', WHERE WHAT IT READS IS OF BULK AT MOST 1048576: true; the input reads as it did. -/
def chunkSharesUptoRow : OpenClaim := { program := "ytbjlmhbpcopfbaa", sum := "4c8e1a92a016951df15d7f7fbcf6ad87487c8c46a8e4f3683a19c438311fc284", func := "tallyman/tallymanlaw11.ChunkShares", spec := "chunkShares", inPlace := ["internal/bytealg.MakeNoZero"], apart := false, narrowed := true }
def ChunkSharesUptoSaid : Prop := chunkSharesUptoRow.holds Try.pinned (OpenSpec.upto chunkSharesSpec)

/-- 'tallymanlaw11.ChunkSays', WHERE WHAT IT READS IS OF BULK AT MOST 1048576: true; the input reads as it did. -/
def chunkSaysUptoRow : OpenClaim := { program := "ytbjlmhbpcopfbaa", sum := "4c8e1a92a016951df15d7f7fbcf6ad87487c8c46a8e4f3683a19c438311fc284", func := "tallyman/tallymanlaw11.ChunkSays", spec := "chunkSays", inPlace := ["internal/bytealg.MakeNoZero", "internal/bytealg.Compare"], unfollowed := true, recurses := true, apart := false, narrowed := true }
def ChunkSaysUptoSaid : Prop := chunkSaysUptoRow.holds Try.pinned (OpenSpec.upto chunkSaysSpec)

/-- 'tallymanlaw11.ChunkKnown', WHERE WHAT IT READS IS OF BULK AT MOST 1048576: true; the input reads as it did. -/
def chunkKnownUptoRow : OpenClaim := { program := "ytbjlmhbpcopfbaa", sum := "4c8e1a92a016951df15d7f7fbcf6ad87487c8c46a8e4f3683a19c438311fc284", func := "tallyman/tallymanlaw11.ChunkKnown", spec := "chunkKnown", inPlace := ["internal/bytealg.MakeNoZero", "internal/bytealg.Compare"], unfollowed := true, recurses := true, apart := false, narrowed := true }
def ChunkKnownUptoSaid : Prop := chunkKnownUptoRow.holds Try.pinned (OpenSpec.upto chunkKnownSpec)

/-- 'tallymanlaw11.ChunkAll', WHERE WHAT IT READS IS OF BULK AT MOST 1048576: true; the input reads as it did. -/
def chunkAllUptoRow : OpenClaim := { program := "ytbjlmhbpcopfbaa", sum := "4c8e1a92a016951df15d7f7fbcf6ad87487c8c46a8e4f3683a19c438311fc284", func := "tallyman/tallymanlaw11.ChunkAll", spec := "chunkAll", inPlace := ["internal/bytealg.MakeNoZero", "internal/bytealg.Compare"], unfollowed := true, recurses := true, apart := false, narrowed := true }
def ChunkAllUptoSaid : Prop := chunkAllUptoRow.holds Try.pinned (OpenSpec.upto chunkAllSpec)

end Rows
end Go.Proofs.Ytbjlmhbpcopfbaa
