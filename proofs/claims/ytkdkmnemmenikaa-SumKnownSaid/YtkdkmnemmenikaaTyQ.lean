/- Regions by types: known slots; small lines. -/
import Derived.Test.YtkdkmnemmenikaaTyG
import Derived.KernelRfl
namespace Go.Proofs.Ytkdkmnemmenikaa
open Go.RowKit

/-- A slot whose value is known, and what is known of it. -/
def Slots (a : Act) : List (Nat × Value) → Prop
  | [] => True
  | p :: r => a.tmps[p.1]? = some p.2 ∧ Slots a r
def ctxOf : List (Nat × Value) → Ctx
  | [] => []
  | p :: r => (p.1, Ty.ex p.2) :: ctxOf r
theorem Fr.slots {N : Nat} {a : Act} {w : World} (hs : a.tmps.size = N) (hd : a.defers = []) : ∀ L : List (Nat × Value), Slots a L → Fr N (ctxOf L) a w
  | [], _ => ⟨hs, hd, fun s τ h => by cases h⟩
  | p :: r, h => by
    have ih := Fr.slots (N := N) (w := w) hs hd r h.2
    refine ⟨hs, hd, fun s τ h2 => ?_⟩
    by_cases e : p.1 = s
    · subst e
      rw [show look (ctxOf (p :: r)) p.1 = some (Ty.ex p.2) from look_same _ _ _] at h2
      injection h2 with h2
      subst h2
      exact ⟨_, h.1, rfl⟩
    · rw [show look (ctxOf (p :: r)) s = look (ctxOf r) s from look_ne _ _ e] at h2
      exact ih.val s τ h2
section
variable {P : Program} {w0 : World} {Γ : Ctx} {o : Oper}
/-- A load, by what it yields in whatever later world. -/
theorem cLoadX {ty : TypeId} {x : Operand} {v u : Value} (ho : o.op = .load ty x) (hx : OpT Γ x (Ty.ex v)) (hl : ∀ w : World, Below w0.heap.size w0 w → (Instr.loadAt ty v).run P w = .ok u w) : OpOk P w0 Γ o (Ty.ex u) :=
  .val fun a w hb hs => by
    obtain ⟨v', h1, h2⟩ := hs x _ (by simp [ho, Op.operands]) hx
    have h2 : v' = v := h2
    subst h2
    refine ⟨_, rfl, ?_⟩
    unfold execOp
    simp [ho, h1, hl w hb]
theorem cFieldX {t : TypeId} {i : Nat} {x : Operand} {v u : Value} (ho : o.op = .fieldAddr t x i) (hx : OpT Γ x (Ty.ex v)) (hr : ∀ w : World, (Instr.fieldAt t v i).run P w = .ok u w) : OpOk P w0 Γ o (Ty.ex u) :=
  .val fun a w hb hs => by
    obtain ⟨v', h1, h2⟩ := hs x _ (by simp [ho, Op.operands]) hx
    have h2 : v' = v := h2
    subst h2
    refine ⟨_, rfl, ?_⟩
    unfold execOp
    simp [ho, h1, hr w]
theorem cBuildP {t : TypeId} {parts : Array (Nat × Operand)} {vs : Array (Nat × Value)} {v : Value} (ho : o.op = .build t parts) (hp : ∀ (a : Act) (w : World), SeesO Γ o a w → (parts.map fun (i, x) => (i, a.eval x)) = vs) (hr : ∀ w : World, (Instr.build t vs).run P w = .ok v w) : OpOk P w0 Γ o (Ty.ex v) :=
  .val fun a w _ hs => ⟨v, rfl, by unfold execOp; simp only [ho, hp a w hs]; simp [hr w]⟩
theorem cBuildC {t : TypeId} {c v : Value} (ho : o.op = .build t #[(0, .const c)]) (hr : ∀ w : World, (Instr.build t #[(0, c)]).run P w = .ok v w) : OpOk P w0 Γ o (Ty.ex v) :=
  cBuildP (vs := #[(0, c)]) ho (fun a w _ => by simp [Act.eval]) hr
/-- Calls by what they do with just these values in whatever later world. -/
theorem cCallX1 {f : FuncId} {ats : Array TypeId} {x : Operand} {v : Value} {ρ : Ty} (ho : o.op = .call { callee := .value (.func f), args := #[x], argTypes := ats }) (hx : OpT Γ x (Ty.ex v)) (he : Enters P f) (hc : ∀ w, Below w0.heap.size w0 w → Ret P f #[v] w ρ) : OpOk P w0 Γ o ρ :=
  cCallW1 ho hx he fun w v' hb hv => by have hv : v' = v := hv; subst hv; exact hc w hb
theorem cCallX2 {f : FuncId} {ats : Array TypeId} {x y : Operand} {v u : Value} {ρ : Ty} (ho : o.op = .call { callee := .value (.func f), args := #[x, y], argTypes := ats }) (hx : OpT Γ x (Ty.ex v)) (hy : OpT Γ y (Ty.ex u)) (he : Enters P f) (hc : ∀ w, Below w0.heap.size w0 w → Ret P f #[v, u] w ρ) : OpOk P w0 Γ o ρ :=
  cCallW2 ho hx hy he fun w v' u' hb hv hu => by have hv : v' = v := hv; have hu : u' = u := hu; subst hv hu; exact hc w hb
/-- A whole block is loaded. -/
theorem cLoadAll {ty e : TypeId} {x : Operand} {cs : Array Value} {d : TypeDesc} (ho : o.op = .load ty x) (hx : Has w0 Γ x (Ty.at_ e cs.toList)) (hu : P.underlying ty = some d) (hd : (match d with | .struct _ | .array _ _ => true | _ => false) = true) (hi : (P.info? ty).map (·.size) = some cs.size) : OpOk P w0 Γ o (Ty.ex (.agg cs)) := by
  have h := cLoadK (P := P) ho hx (pts_at _ _) hu hd hi (by simp)
  rwa [show (cs.toList.take cs.size).toArray = cs by rw [← Array.length_toList, List.take_length]] at h
end
end Go.Proofs.Ytkdkmnemmenikaa
