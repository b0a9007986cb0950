/- The library's contracts, laid at this translation. -/
import Derived.Test.YtkdkmnemmenikaaProg
import Derived.Shelf.Bytes.SlJoin
import Derived.KernelRfl
namespace Go.Proofs.Ytkdkmnemmenikaa
open Go.RowKit Go.Shelf

def laysSlJ14_ren : Go.Shelf.Ren := ⟨fun | 14 => 12 | 15 => 17 | n => n, fun | 26 => 35 | 22 => 30 | 3 => 3 | 4 => 4 | 0 => 0 | 9 => 9 | 20 => 20 | 5 => 5 | n => n, fun | n => n⟩
theorem laysSlJ14 : Go.Proofs.SlLaysJ.n14 Try.prog laysSlJ14_ren := {
  mixed := by kernel_rfl
  f14 := Try.func12.trans (congrArg some (by kernel_rfl))
  f15 := Try.func17.trans (congrArg some (by kernel_rfl))
  t0 := Try.underlying0
  a0 := Try.isAgg0
  z0 := Try.sizeOf0
  v0 := Try.zeroValue0
  t3 := Try.underlying3
  a3 := Try.isAgg3
  z3 := Try.sizeOf3
  v3 := Try.zeroValue3
  t4 := Try.underlying4
  a4 := Try.isAgg4
  z4 := Try.sizeOf4
  v4 := Try.zeroValue4
  t9 := Try.underlying9
  a9 := Try.isAgg9
  z9 := Try.sizeOf9
  v9 := Try.zeroValue9
  t20 := Try.underlying20
  a20 := Try.isAgg20
  z20 := Try.sizeOf20
  v20 := Try.zeroValue20
  t22 := Try.underlying30
  a22 := Try.isAgg30
  z22 := Try.sizeOf30
  v22 := Try.zeroValue30
  t26 := Try.underlying35
  a26 := Try.isAgg35
  z26 := Try.sizeOf35
  v26 := Try.zeroValue35
  t5 := Try.underlying5
  z5 := Try.sizeOf5
  i5 := by kernel_rfl }
end Go.Proofs.Ytkdkmnemmenikaa
