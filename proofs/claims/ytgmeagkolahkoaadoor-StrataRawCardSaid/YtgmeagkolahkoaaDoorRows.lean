/-
  NARROWER THAN 'FOR EVERY INPUT', by the rows' own cells (each row's printed sentence says how): StrataRaw: laid · StrataSwap: laid · StrataKnown: laid · StrataCells: laid · StrataSelf: laid.
  DERIVED. THE GIVEN ROWS OF THIS SEAT. 5 by the template 'for every input the law returns true; each argument reads behind the call as it read before'; 0 by the template 'total and deterministic' (their statements: YtgmeagkolahkoaaDoorTotals.lean).
  GIVEN WITH THE SEED: the statements are not yours to turn. If you find one false, say at which input.
  Laid BY PROGRAM, IN A SANDBOX (cutbox-rows.mjs): the forced cells as the released guide's own fill.sh prints them over the translation 40066af0af1bcdb4… (all of the seat's roots in one cut). By AI agents, Wed Nov 11 2026. No macro, syntax, notation, axiom, sorry.
-/
import Derived.Test.YtgmeagkolahkoaaDoorChecked
import GoSem.Claim
import GoSem.ClaimJoined
import GoSem.ClaimMapViews
import Derived.JoinedTies
import Derived.KernelRfl
namespace Go.Proofs.YtgmeagkolahkoaaDoor
/- THE CELL 'sum', in the pinned program and in every row, IS THE sha256 OF THE DUMP (.gsa) THAT YtgmeagkolahkoaaDoorProg.lean LOADS. Nothing in Lean hashes anything: it is a label: what it is worth is what the hold of that sum in a sandbox is worth. -/
noncomputable def Tryd.pinned : Pinned := { name := "ytgmeagkolahkoaadoor", sum := "40066af0af1bcdb4c093681d8ea6a4aa33de92e51a11894c0f67409c2fec09ff", checked := Tryd.checked }
namespace Rows
def none {H : Type} : Left H := { results := [], args := [] }

/- WHAT THE LISTED PACKAGE-LEVEL VARIABLES READ AS WHEN THE CALL BEGINS. Each datum BY PROGRAM (the guide's laid-datum.mjs) off the statement by which the dump's own 'gosem.cut.vars' lays the variable. In a bare row this is a premise. The card (YtgmeagkolahkoaaDoorCards.lean) ties it to the program's text. -/
def laid_math_bits_deBruijn64tab {H : Type} : DataW H := .agg [.lit (.int .u8 0), .lit (.int .u8 1), .lit (.int .u8 56), .lit (.int .u8 2), .lit (.int .u8 57), .lit (.int .u8 49), .lit (.int .u8 28), .lit (.int .u8 3), .lit (.int .u8 61), .lit (.int .u8 58), .lit (.int .u8 42), .lit (.int .u8 50), .lit (.int .u8 38), .lit (.int .u8 29), .lit (.int .u8 17), .lit (.int .u8 4), .lit (.int .u8 62), .lit (.int .u8 47), .lit (.int .u8 59), .lit (.int .u8 36), .lit (.int .u8 45), .lit (.int .u8 43), .lit (.int .u8 51), .lit (.int .u8 22), .lit (.int .u8 53), .lit (.int .u8 39), .lit (.int .u8 33), .lit (.int .u8 30), .lit (.int .u8 24), .lit (.int .u8 18), .lit (.int .u8 12), .lit (.int .u8 5), .lit (.int .u8 63), .lit (.int .u8 55), .lit (.int .u8 48), .lit (.int .u8 27), .lit (.int .u8 60), .lit (.int .u8 41), .lit (.int .u8 37), .lit (.int .u8 16), .lit (.int .u8 46), .lit (.int .u8 35), .lit (.int .u8 44), .lit (.int .u8 21), .lit (.int .u8 52), .lit (.int .u8 32), .lit (.int .u8 23), .lit (.int .u8 11), .lit (.int .u8 54), .lit (.int .u8 26), .lit (.int .u8 40), .lit (.int .u8 15), .lit (.int .u8 34), .lit (.int .u8 20), .lit (.int .u8 31), .lit (.int .u8 10), .lit (.int .u8 25), .lit (.int .u8 14), .lit (.int .u8 19), .lit (.int .u8 9), .lit (.int .u8 13), .lit (.int .u8 8), .lit (.int .u8 7), .lit (.int .u8 6)]

/-- 'tallymanlaw17.StrataRaw': WHATEVER THE INPUT: true; the input reads as it did. -/
def strataRawSpec : ChangeSpec := { name := "strataRaw", fn := fun _ => fun
  | [d1, d2, d3, d4, d5] => { results := [.lit (.bool true)], args := [d1, d2, d3, d4, d5] }
  | _ => none }
def strataRawRow : OpenClaim := { program := "ytgmeagkolahkoaadoor", sum := "40066af0af1bcdb4c093681d8ea6a4aa33de92e51a11894c0f67409c2fec09ff", func := "tallyman/tallymanlaw17.StrataRaw", spec := "strataRaw", inPlace := ["internal/bytealg.MakeNoZero", "internal/bytealg.Compare"], unfollowed := true, recurses := true, named := ["math/bits.deBruijn64tab"], plainKeys := false, apart := false, laid := [("math/bits.deBruijn64tab", laid_math_bits_deBruijn64tab)] }
def StrataRawSaid : Prop := strataRawRow.holds Tryd.pinned (OpenSpec.ofChange strataRawSpec)

/-- ITS FALSE NEIGHBOUR: 'it returns false'. Refute it at one input. -/
def strataRawWrong : ChangeSpec := { name := "strataRaw", fn := fun _ => fun
  | [d1, d2, d3, d4, d5] => { results := [.lit (.bool false)], args := [d1, d2, d3, d4, d5] }
  | _ => none }
def StrataRawWrongFalsely : Prop := strataRawRow.holds Tryd.pinned (OpenSpec.ofChange strataRawWrong)

/-- 'tallymanlaw17.StrataSwap': WHATEVER THE INPUT: true; the input reads as it did. -/
def strataSwapSpec : ChangeSpec := { name := "strataSwap", fn := fun _ => fun
  | [d1, d2, d3] => { results := [.lit (.bool true)], args := [d1, d2, d3] }
  | _ => none }
def strataSwapRow : OpenClaim := { program := "ytgmeagkolahkoaadoor", sum := "40066af0af1bcdb4c093681d8ea6a4aa33de92e51a11894c0f67409c2fec09ff", func := "tallyman/tallymanlaw17.StrataSwap", spec := "strataSwap", inPlace := ["internal/bytealg.MakeNoZero", "internal/bytealg.Compare"], unfollowed := true, recurses := true, named := ["math/bits.deBruijn64tab"], plainKeys := false, apart := false, laid := [("math/bits.deBruijn64tab", laid_math_bits_deBruijn64tab)] }
def StrataSwapSaid : Prop := strataSwapRow.holds Tryd.pinned (OpenSpec.ofChange strataSwapSpec)

/-- ITS FALSE NEIGHBOUR: 'it returns false'. Refute it at one input. -/
def strataSwapWrong : ChangeSpec := { name := "strataSwap", fn := fun _ => fun
  | [d1, d2, d3] => { results := [.lit (.bool false)], args := [d1, d2, d3] }
  | _ => none }
def StrataSwapWrongFalsely : Prop := strataSwapRow.holds Tryd.pinned (OpenSpec.ofChange strataSwapWrong)

/-- 'tallymanlaw17.StrataKnown': WHATEVER THE INPUT: true; the input reads as it did. -/
def strataKnownSpec : ChangeSpec := { name := "strataKnown", fn := fun _ => fun
  | [] => { results := [.lit (.bool true)], args := [] }
  | _ => none }
def strataKnownRow : OpenClaim := { program := "ytgmeagkolahkoaadoor", sum := "40066af0af1bcdb4c093681d8ea6a4aa33de92e51a11894c0f67409c2fec09ff", func := "tallyman/tallymanlaw17.StrataKnown", spec := "strataKnown", inPlace := ["internal/bytealg.MakeNoZero", "internal/bytealg.Compare"], unfollowed := true, recurses := true, named := ["math/bits.deBruijn64tab"], plainKeys := false, apart := false, laid := [("math/bits.deBruijn64tab", laid_math_bits_deBruijn64tab)] }
def StrataKnownSaid : Prop := strataKnownRow.holds Tryd.pinned (OpenSpec.ofChange strataKnownSpec)

/-- ITS FALSE NEIGHBOUR: 'it returns false'. Refute it at one input. -/
def strataKnownWrong : ChangeSpec := { name := "strataKnown", fn := fun _ => fun
  | [] => { results := [.lit (.bool false)], args := [] }
  | _ => none }
def StrataKnownWrongFalsely : Prop := strataKnownRow.holds Tryd.pinned (OpenSpec.ofChange strataKnownWrong)

/-- 'tallymanlaw17.StrataCells': WHATEVER THE INPUT: true; the input reads as it did. -/
def strataCellsSpec : ChangeSpec := { name := "strataCells", fn := fun _ => fun
  | [d1, d2] => { results := [.lit (.bool true)], args := [d1, d2] }
  | _ => none }
def strataCellsRow : OpenClaim := { program := "ytgmeagkolahkoaadoor", sum := "40066af0af1bcdb4c093681d8ea6a4aa33de92e51a11894c0f67409c2fec09ff", func := "tallyman/tallymanlaw17.StrataCells", spec := "strataCells", inPlace := ["internal/bytealg.MakeNoZero", "internal/bytealg.Compare"], unfollowed := true, recurses := true, named := ["math/bits.deBruijn64tab"], plainKeys := false, apart := false, laid := [("math/bits.deBruijn64tab", laid_math_bits_deBruijn64tab)] }
def StrataCellsSaid : Prop := strataCellsRow.holds Tryd.pinned (OpenSpec.ofChange strataCellsSpec)

/-- ITS FALSE NEIGHBOUR: 'it returns false'. Refute it at one input. -/
def strataCellsWrong : ChangeSpec := { name := "strataCells", fn := fun _ => fun
  | [d1, d2] => { results := [.lit (.bool false)], args := [d1, d2] }
  | _ => none }
def StrataCellsWrongFalsely : Prop := strataCellsRow.holds Tryd.pinned (OpenSpec.ofChange strataCellsWrong)

/-- 'tallymanlaw17.StrataSelf': WHATEVER THE INPUT: true; the input reads as it did. -/
def strataSelfSpec : ChangeSpec := { name := "strataSelf", fn := fun _ => fun
  | [d1, d2, d3] => { results := [.lit (.bool true)], args := [d1, d2, d3] }
  | _ => none }
def strataSelfRow : OpenClaim := { program := "ytgmeagkolahkoaadoor", sum := "40066af0af1bcdb4c093681d8ea6a4aa33de92e51a11894c0f67409c2fec09ff", func := "tallyman/tallymanlaw17.StrataSelf", spec := "strataSelf", inPlace := ["internal/bytealg.MakeNoZero", "internal/bytealg.Compare"], unfollowed := true, recurses := true, named := ["math/bits.deBruijn64tab"], plainKeys := false, apart := false, laid := [("math/bits.deBruijn64tab", laid_math_bits_deBruijn64tab)] }
def StrataSelfSaid : Prop := strataSelfRow.holds Tryd.pinned (OpenSpec.ofChange strataSelfSpec)

/-- ITS FALSE NEIGHBOUR: 'it returns false'. Refute it at one input. -/
def strataSelfWrong : ChangeSpec := { name := "strataSelf", fn := fun _ => fun
  | [d1, d2, d3] => { results := [.lit (.bool false)], args := [d1, d2, d3] }
  | _ => none }
def StrataSelfWrongFalsely : Prop := strataSelfRow.holds Tryd.pinned (OpenSpec.ofChange strataSelfWrong)

/- THE SECOND FORM. 'bulk': how many values and letters a reading holds, each counted each time it is reached (what is shared counts as often as it is met; a slice's spare places count too). A statement '..UptoSaid' is the law's where the arguments, and the package variables that the reading takes, are together of bulk at most 1048576: NARROWER than '..Said'. Prove '..Said' where nothing that the law and all that it calls make is longer than what came in: it says more and counts as full. Else prove '..UptoSaid'. A law counts once. -/
mutual
def uptoBulk {H : Type} : DataW H → Nat
  | .lit (.string bytes) => bytes.length + 1
  | .lit _ => 1
  | .nil => 1
  | .ptr d => uptoBulk d + 1
  | .slice elems spare => uptoBulkAll elems + uptoBulkAll spare + 1
  | .agg parts => uptoBulkAll parts + 1
  | .iface _ d => uptoBulk d + 1
  | .map entries => uptoBulkEntries entries + 1
  | .held _ => 1
def uptoBulkAll {H : Type} : List (DataW H) → Nat
  | [] => 0
  | d :: r => uptoBulk d + uptoBulkAll r
def uptoBulkEntries {H : Type} : List (Lit × DataW H) → Nat
  | [] => 0
  | x :: r => uptoBulkEntry x + uptoBulkEntries r
def uptoBulkEntry {H : Type} : Lit × DataW H → Nat
  | (.string bytes, d) => bytes.length + uptoBulk d + 1
  | (_, d) => uptoBulk d + 1
 end
def uptoSmall : (H : Type) → List (DataW H) → Bool := fun _ ds => decide (uptoBulkAll ds ≤ 1048576)
def OpenSpec.upto (s : _root_.Go.ChangeSpec) : _root_.Go.OpenSpec := { _root_.Go.OpenSpec.ofChange s with cond := some uptoSmall }

/-- 'tallymanlaw17.StrataRaw', WHERE WHAT IT READS IS OF BULK AT MOST 1048576: true; the input reads as it did. -/
def strataRawUptoRow : OpenClaim := { program := "ytgmeagkolahkoaadoor", sum := "40066af0af1bcdb4c093681d8ea6a4aa33de92e51a11894c0f67409c2fec09ff", func := "tallyman/tallymanlaw17.StrataRaw", spec := "strataRaw", inPlace := ["internal/bytealg.MakeNoZero", "internal/bytealg.Compare"], unfollowed := true, recurses := true, named := ["math/bits.deBruijn64tab"], plainKeys := false, apart := false, laid := [("math/bits.deBruijn64tab", laid_math_bits_deBruijn64tab)], narrowed := true }
def StrataRawUptoSaid : Prop := strataRawUptoRow.holds Tryd.pinned (OpenSpec.upto strataRawSpec)

/-- 'tallymanlaw17.StrataSwap', WHERE WHAT IT READS IS OF BULK AT MOST 1048576: true; the input reads as it did. -/
def strataSwapUptoRow : OpenClaim := { program := "ytgmeagkolahkoaadoor", sum := "40066af0af1bcdb4c093681d8ea6a4aa33de92e51a11894c0f67409c2fec09ff", func := "tallyman/tallymanlaw17.StrataSwap", spec := "strataSwap", inPlace := ["internal/bytealg.MakeNoZero", "internal/bytealg.Compare"], unfollowed := true, recurses := true, named := ["math/bits.deBruijn64tab"], plainKeys := false, apart := false, laid := [("math/bits.deBruijn64tab", laid_math_bits_deBruijn64tab)], narrowed := true }
def StrataSwapUptoSaid : Prop := strataSwapUptoRow.holds Tryd.pinned (OpenSpec.upto strataSwapSpec)

/-- 'tallymanlaw17.StrataKnown', WHERE WHAT IT READS IS OF BULK AT MOST 1048576: true; the input reads as it did. -/
def strataKnownUptoRow : OpenClaim := { program := "ytgmeagkolahkoaadoor", sum := "40066af0af1bcdb4c093681d8ea6a4aa33de92e51a11894c0f67409c2fec09ff", func := "tallyman/tallymanlaw17.StrataKnown", spec := "strataKnown", inPlace := ["internal/bytealg.MakeNoZero", "internal/bytealg.Compare"], unfollowed := true, recurses := true, named := ["math/bits.deBruijn64tab"], plainKeys := false, apart := false, laid := [("math/bits.deBruijn64tab", laid_math_bits_deBruijn64tab)], narrowed := true }
def StrataKnownUptoSaid : Prop := strataKnownUptoRow.holds Tryd.pinned (OpenSpec.upto strataKnownSpec)

/-- 'tallymanlaw17.StrataCells', WHERE WHAT IT READS IS OF BULK AT MOST 1048576: true; the input reads as it did. -/
def strataCellsUptoRow : OpenClaim := { program := "ytgmeagkolahkoaadoor", sum := "40066af0af1bcdb4c093681d8ea6a4aa33de92e51a11894c0f67409c2fec09ff", func := "tallyman/tallymanlaw17.StrataCells", spec := "strataCells", inPlace := ["internal/bytealg.MakeNoZero", "internal/bytealg.Compare"], unfollowed := true, recurses := true, named := ["math/bits.deBruijn64tab"], plainKeys := false, apart := false, laid := [("math/bits.deBruijn64tab", laid_math_bits_deBruijn64tab)], narrowed := true }
def StrataCellsUptoSaid : Prop := strataCellsUptoRow.holds Tryd.pinned (OpenSpec.upto strataCellsSpec)

/-- 'tallymanlaw17.StrataSelf', WHERE WHAT IT READS IS OF BULK AT MOST 1048576: true; the input reads as it did. -/
def strataSelfUptoRow : OpenClaim := { program := "ytgmeagkolahkoaadoor", sum := "40066af0af1bcdb4c093681d8ea6a4aa33de92e51a11894c0f67409c2fec09ff", func := "tallyman/tallymanlaw17.StrataSelf", spec := "strataSelf", inPlace := ["internal/bytealg.MakeNoZero", "internal/bytealg.Compare"], unfollowed := true, recurses := true, named := ["math/bits.deBruijn64tab"], plainKeys := false, apart := false, laid := [("math/bits.deBruijn64tab", laid_math_bits_deBruijn64tab)], narrowed := true }
def StrataSelfUptoSaid : Prop := strataSelfUptoRow.holds Tryd.pinned (OpenSpec.upto strataSelfSpec)

end Rows
end Go.Proofs.YtgmeagkolahkoaaDoor
