/- Layer 10: words of this translation: rows of sums. -/
import Derived.Test.YtkdkmnemmenikaaTyB
import Derived.KernelRfl
namespace Go.Proofs.Ytkdkmnemmenikaa
open Go.RowKit

theorem mixed : Try.prog.follows .mixedOrders = true := by kernel_rfl
theorem infoS : (Try.prog.info? 24).map (fun i => (i.zero, i.size, i.bytes)) = some (some (.agg (u8s (List.replicate 32 0))), 32, 32) := by kernel_rfl
theorem sizeS : (Try.prog.info? 24).map (·.size) = some 32 := by kernel_rfl
theorem sizeA : (Try.prog.info? 23).map (·.size) = some 32 := by kernel_rfl
theorem sizeU : (Try.prog.info? 5).map (·.size) = some 1 := by kernel_rfl
theorem zero32_size : (Value.agg (u8s (List.replicate 32 0))).cells.size = 32 := by decide
theorem len_enc (x : Sm) : ((Value.agg (u8s x.l)).cells.toList).length = 32 := by
  show (u8s x.l).toList.length = 32
  rw [u8s_list, List.length_map, x.len]
theorem enc_one (x : Sm) : ∀ u ∈ x.enc, u.oneCell' = true := by
  intro u hu
  obtain ⟨b, _, rfl⟩ := List.mem_map.1 hu
  rfl

section
variable {w0 : World} {Γ : Ctx} {o : Oper}
theorem cEqlAgg {P : Program} {t t2 : TypeId} {x y : Operand} {xs ys : Array Value} {b : Bool} (ho : o.op = .binOp .eql t x y t2) (hx : OpT Γ x (Ty.ex (.agg xs))) (hy : OpT Γ y (Ty.ex (.agg ys))) (hg : P.eqGuardType P.depth t = false)
    (hr : ∀ w : World, (binOp .eql t (.agg xs) (.agg ys)).run P w = .ok (.bool b) w) : OpOk P w0 Γ o (Ty.ex (.bool b)) :=
  cBin ho hx hy fun w => by rw [Sem.run_bind, run_eqGuard_agg (P := P) w .eql t x y xs ys hg]; exact hr w
theorem cNeqAgg {P : Program} {t t2 : TypeId} {x y : Operand} {xs ys : Array Value} {b : Bool} (ho : o.op = .binOp .neq t x y t2) (hx : OpT Γ x (Ty.ex (.agg xs))) (hy : OpT Γ y (Ty.ex (.agg ys))) (hg : P.eqGuardType P.depth t = false)
    (hr : ∀ w : World, (binOp .neq t (.agg xs) (.agg ys)).run P w = .ok (.bool b) w) : OpOk P w0 Γ o (Ty.ex (.bool b)) :=
  cBin ho hx hy fun w => by rw [Sem.run_bind, run_eqGuard_agg (P := P) w .neq t x y xs ys hg]; exact hr w
theorem dec_l (x y : Sm) : decide (x.l = y.l) = decide (x = y) := by
  rw [Bool.eq_iff_iff, decide_eq_true_eq, decide_eq_true_eq]
  exact ⟨Sm.ext_l, fun h => by rw [h]⟩
theorem guardS : Try.prog.eqGuardType Try.prog.depth 24 = false := by kernel_rfl
theorem cells_byte : Try.prog.cellsOf 5 = 1 := by kernel_rfl
theorem info_u8 : ∃ i, Try.prog.info? 5 = some i := by
  have h : (Try.prog.info? 5).isSome = true := by kernel_rfl
  exact Option.isSome_iff_exists.1 h
theorem eqlS (x y : Sm) (w : World) : (binOp .eql 24 (.agg (u8s x.l)) (.agg (u8s y.l))).run Try.prog w = .ok (.bool (decide (x = y))) w := by
  obtain ⟨i, hi⟩ := info_u8
  rw [run_eql_bytes 24 5 32 i Try.underlying24 hi cells_byte Try.underlying5 Try.isAgg5 x.l y.l x.len y.len w, dec_l]
theorem neqS (x y : Sm) (w : World) : (binOp .neq 24 (.agg (u8s x.l)) (.agg (u8s y.l))).run Try.prog w = .ok (.bool (!decide (x = y))) w := by
  obtain ⟨i, hi⟩ := info_u8
  rw [run_neq_bytes 24 5 32 i Try.underlying24 hi cells_byte Try.underlying5 Try.isAgg5 x.l y.l x.len y.len w, dec_l]
end

/-- A sum whose first byte is b. -/
def sm1 (b : Nat) (h : b < 256) : Sm := ⟨b :: List.replicate 31 0, by simp, fun x hx => by
  rcases List.mem_cons.1 hx with rfl | hx
  · exact h
  · rw [(List.mem_replicate.1 hx).2]; omega⟩
end Go.Proofs.Ytkdkmnemmenikaa
