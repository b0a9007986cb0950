/- The walk of Sum.Zero; == of sums. -/
import Derived.Test.YtkdkmnemmenikaaXorA
import Derived.Test.YtkdkmnemmenikaaApp
namespace Go.Proofs.Ytkdkmnemmenikaa
open Go.RowKit

theorem zeros_lit : u8s (List.replicate 32 0) = #[.int .u8 0, .int .u8 0, .int .u8 0, .int .u8 0, .int .u8 0, .int .u8 0, .int .u8 0, .int .u8 0, .int .u8 0, .int .u8 0, .int .u8 0, .int .u8 0, .int .u8 0, .int .u8 0, .int .u8 0, .int .u8 0, .int .u8 0, .int .u8 0, .int .u8 0, .int .u8 0, .int .u8 0, .int .u8 0, .int .u8 0, .int .u8 0, .int .u8 0, .int .u8 0, .int .u8 0, .int .u8 0, .int .u8 0, .int .u8 0, .int .u8 0, .int .u8 0] := by kernel_rfl
theorem info_at : ∃ i, Try.prog.info? 5 = some i := by
  cases h : Try.prog.info? 5 with
  | none => have := info_byte; rw [h] at this; cases this
  | some i => exact ⟨i, rfl⟩
theorem eql_sum (x y : List Nat) (hx : x.length = 32) (hy : y.length = 32) (w : World) : (binOp .eql 24 (.agg (u8s x)) (.agg (u8s y))).run Try.prog w = .ok (.bool (decide (x = y))) w := by
  obtain ⟨i, hi⟩ := info_at
  exact run_eql_bytes _ _ 32 i Try.underlying24 hi (by kernel_rfl) Try.underlying5 Try.isAgg5 x y hx hy w
theorem Sm.eq_iff (x y : Sm) : (x.l = y.l) ↔ x = y := ⟨Sm.ext_l, fun h => by rw [h]⟩
theorem eql_sm (x y : Sm) (w : World) : (binOp .eql 24 (.agg (u8s x.l)) (.agg (u8s y.l))).run Try.prog w = .ok (.bool (decide (x = y))) w := by
  rw [eql_sum x.l y.l x.len y.len w]
  congr 2
  simp only [Sm.eq_iff]
theorem eql_zero (x : Sm) (w : World) : (binOp .eql 24 (.agg (u8s x.l)) (.agg #[.int .u8 0, .int .u8 0, .int .u8 0, .int .u8 0, .int .u8 0, .int .u8 0, .int .u8 0, .int .u8 0, .int .u8 0, .int .u8 0, .int .u8 0, .int .u8 0, .int .u8 0, .int .u8 0, .int .u8 0, .int .u8 0, .int .u8 0, .int .u8 0, .int .u8 0, .int .u8 0, .int .u8 0, .int .u8 0, .int .u8 0, .int .u8 0, .int .u8 0, .int .u8 0, .int .u8 0, .int .u8 0, .int .u8 0, .int .u8 0, .int .u8 0, .int .u8 0])).run Try.prog w = .ok (.bool (decide (x = Sm.zero))) w := by
  rw [← zeros_lit]
  exact eql_sm x Sm.zero w

set_option maxRecDepth 100000 in
theorem Zero_any (x : Sm) (w : World) :
    Calls Try.prog 8 #[.agg (u8s x.l)] w fun e w' => e = .returned (.bool (decide (x = Sm.zero))) ∧ Below w.heap.size w w' := by
  have heq := eql_zero x
  have hi := info32
  have hI := Lib.hid (hi.trans (congrArg some (((u8s_size x.l).trans x.len).symm)))
  clear hi
  generalize u8s x.l = xs at *
  generalize decide (x = Sm.zero) = r at *
  go_enter Try.func8, Try.ntmps8
  go_wp2_with (refine wpList_load_blk rfl 24 (.tmp 1) rfl w.heap.size rfl 24 xs _ (Blk.new w _ _) Try.underlying24 rfl hI.out ?_)
  go_ret
  exact ⟨rfl, ((Keeps.refl [] w).alloc _).below⟩
end Go.Proofs.Ytkdkmnemmenikaa
