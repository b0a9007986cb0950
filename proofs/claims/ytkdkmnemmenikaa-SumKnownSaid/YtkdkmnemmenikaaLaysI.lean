/- The library's contracts for strings.IndexByte, laid at this translation. -/
import Derived.Test.YtkdkmnemmenikaaLaysJ
import Derived.Shelf.Small.Strs
import Derived.Shelf.Strings.Search1
namespace Go.Proofs.Ytkdkmnemmenikaa
open Go.RowKit Go.Shelf

def lays137_ren : Go.Shelf.Ren := ⟨fun | 137 => 15 | 217 => 21 | 266 => 23 | n => n, fun | 9 => 9 | 5 => 5 | 3 => 3 | n => n, fun | n => n⟩
theorem lays137 : Go.Proofs.Lays.n137 Try.prog lays137_ren := {
  mixed := by kernel_rfl
  f137 := Try.func15.trans (congrArg some (by kernel_rfl))
  f217 := Try.func21.trans (congrArg some (by kernel_rfl))
  f266 := Try.func23.trans (congrArg some (by kernel_rfl))
  t3 := Try.underlying3
  a3 := Try.isAgg3
  z3 := Try.sizeOf3
  v3 := Try.zeroValue3
  t5 := Try.underlying5
  a5 := Try.isAgg5
  z5 := Try.sizeOf5
  v5 := Try.zeroValue5
  t9 := Try.underlying9
  a9 := Try.isAgg9
  z9 := Try.sizeOf9
  v9 := Try.zeroValue9 }

def lays217_ren : Go.Shelf.Ren := ⟨fun | 217 => 21 | 266 => 23 | n => n, fun | 9 => 9 | 5 => 5 | 3 => 3 | n => n, fun | n => n⟩
theorem lays217 : Go.Proofs.Lays.n217 Try.prog lays217_ren := {
  mixed := by kernel_rfl
  f217 := Try.func21.trans (congrArg some (by kernel_rfl))
  f266 := Try.func23.trans (congrArg some (by kernel_rfl))
  t3 := Try.underlying3
  a3 := Try.isAgg3
  z3 := Try.sizeOf3
  v3 := Try.zeroValue3
  t5 := Try.underlying5
  a5 := Try.isAgg5
  z5 := Try.sizeOf5
  v5 := Try.zeroValue5
  t9 := Try.underlying9
  a9 := Try.isAgg9
  z9 := Try.sizeOf9
  v9 := Try.zeroValue9 }

end Go.Proofs.Ytkdkmnemmenikaa
