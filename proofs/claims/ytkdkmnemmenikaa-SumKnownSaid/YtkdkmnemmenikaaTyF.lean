/- Regions by types: calls through function values; shifts, conversions; closures. -/
import Derived.Test.YtkdkmnemmenikaaTyM
namespace Go.Proofs.Ytkdkmnemmenikaa
open Go.RowKit

section
variable {P : Program} {w0 : World} {Γ : Ctx} {o : Oper}
theorem exec_goV {f : FuncId} {ats : Array TypeId} {x0 : Operand} {xs : Array Operand} {cb : Array Value} (ρ : Operand → Value) (ho : o.op = .call { callee := .value x0, args := xs, argTypes := ats }) (hf : ρ x0 = .func (.func f) #[] cb) : execOp ρ o = callFunc f (xs.map ρ ++ cb) := by
  unfold execOp
  simp only [ho, resolve, hf]
  simp [Deferred.ofValue, invoke]
/-- A call through a function value, of two arguments. -/
theorem cCallV2 {f : FuncId} {ats : Array TypeId} {x0 x y : Operand} {τ σ ρ : Ty} (ho : o.op = .call { callee := .value x0, args := #[x, y], argTypes := ats }) (h0 : OpT Γ x0 (Ty.ex (.func (.func f) #[] #[]))) (hx : Has w0 Γ x τ) (hy : Has w0 Γ y σ) (hc : Fn2 P f τ σ ρ) : OpOk P w0 Γ o ρ :=
  .call fun a w hb hs => by
    obtain ⟨v0, k1, k2⟩ := hs x0 _ (by simp [ho, Op.operands, Call.operands]) h0
    have k2 : v0 = .func (.func f) #[] #[] := k2
    obtain ⟨v, h1, h2⟩ := hx.see hs (by simp [ho, Op.operands, Call.operands]) hb
    obtain ⟨u, h3, h4⟩ := hy.see hs (by simp [ho, Op.operands, Call.operands]) hb
    refine ⟨f, #[v, u], ?_, hc.ret w v u h2 h4⟩
    rw [exec_goV a.eval ho (k1.trans k2)]
    simp only [List.map_toArray, List.map_cons, List.map_nil, h1, h3, Array.append_empty]
    exact hc.en _ w
/-- A call of one argument through a closure, by what it does in whatever later world. -/
theorem cCallC1 {f : FuncId} {ats : Array TypeId} {x0 x : Operand} {cb : Array Value} {v : Value} {ρ : Ty} (ho : o.op = .call { callee := .value x0, args := #[x], argTypes := ats }) (h0 : OpT Γ x0 (Ty.ex (.func (.func f) #[] cb))) (hx : OpT Γ x (Ty.ex v)) (he : Enters P f) (hc : ∀ w, Below w0.heap.size w0 w → Ret P f (#[v] ++ cb) w ρ) : OpOk P w0 Γ o ρ :=
  .call fun a w hb hs => by
    obtain ⟨v0, k1, k2⟩ := hs x0 _ (by simp [ho, Op.operands, Call.operands]) h0
    have k2 : v0 = .func (.func f) #[] cb := k2
    obtain ⟨u, h1, h2⟩ := hs x _ (by simp [ho, Op.operands, Call.operands]) hx
    have h2 : u = v := h2
    subst h2
    refine ⟨f, #[u] ++ cb, ?_, hc w hb⟩
    rw [exec_goV a.eval ho (k1.trans k2)]
    simp only [List.map_toArray, List.map_cons, List.map_nil, h1]
    exact he _ w
section
variable {t t2 : TypeId} {x y : Operand} {k : IntKind} {m n : Int}
theorem cShr {j : IntKind} {r : Int} (ho : o.op = .binOp .shr t x y t2) (hx : OpT Γ x (Ty.ex (.int k m))) (hy : OpT Γ y (Ty.ex (.int j n))) (hn : 0 ≤ n ∧ n.toNat ≤ k.bits) (hr : m.fdiv (2 ^ n.toNat) = r) : OpOk P w0 Γ o (Ty.ex (.int k r)) :=
  cBin ho hx hy fun w => by
    have h1 : ¬ n < 0 := by omega
    have h2 : min n.toNat k.bits = n.toNat := Nat.min_eq_left hn.2
    simp [eqGuard, binOp, Op.shift, h1, h2, hr]
end
theorem cConvR {src dst : TypeId} {x : Operand} {k j : IntKind} {n r : Int} {d : TypeDesc} (ho : o.op = .convert src dst x) (hx : OpT Γ x (Ty.ex (.int j n))) (hs : P.underlying src = some d) (hd : P.underlying dst = some (.int k)) (hr : k.wrap n = r) : OpOk P w0 Γ o (Ty.ex (.int k r)) := by
  have h := cConvInt (P := P) (w0 := w0) ho hx hs hd
  rwa [hr] at h
/-- A closure. -/
theorem cMakeFunc {f : FuncId} {x : Operand} {v : Value} (ho : o.op = .makeFunc (.func f) #[] #[x]) (hx : OpT Γ x (Ty.ex v)) : OpOk P w0 Γ o (Ty.ex (.func (.func f) #[] #[v])) :=
  .val fun a w _ hs => by
    obtain ⟨u, h1, h2⟩ := hs x _ (by simp [ho, Op.operands]) hx
    have h2 : u = v := h2
    refine ⟨_, rfl, ?_⟩
    unfold execOp
    simp [ho, h1, h2, Instr.makeFunc]
end
/-- What a test does in whatever world that keeps all but S: it answers p. -/
def PredK (P : Program) (f : FuncId) (cb : Array Value) (S : List Nat) (w : World) (p : Sm → Bool) : Prop := ∀ (W : World) (x : Sm), Keeps S w W → Ret P f (#[.agg (u8s x.l)] ++ cb) W (Ty.ex (.bool (p x)))
theorem PredK.later {P : Program} {f : FuncId} {cb : Array Value} {S : List Nat} {w w' : World} {p : Sm → Bool} (h : PredK P f cb S w p) (k : Keeps S w w') : PredK P f cb S w' p := fun W x k' => h W x (k.trans k')
end Go.Proofs.Ytkdkmnemmenikaa
