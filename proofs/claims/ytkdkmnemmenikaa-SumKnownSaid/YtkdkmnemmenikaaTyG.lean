/- Regions by types: boxes, stores of whatever values. -/
import Derived.Test.YtkdkmnemmenikaaTyF
namespace Go.Proofs.Ytkdkmnemmenikaa
open Go.RowKit

def Ty.any : Ty := ⟨fun _ _ => True, fun _ => false, fun _ _ _ => True.intro⟩
theorem var_at {w0 : World} {t : TypeId} {cs : Array Value} : ∀ w v, (Ty.var w0 t cs).p w v → (Ty.at_ t cs.toList).p w v := fun w v ⟨g, h1, h2, h3⟩ =>
  ⟨g, 0, cs, (0, 0), h1, h3, fun j u hu => by rw [Nat.zero_add]; simpa using hu⟩
theorem blk_at {w : World} {g : Nat} {t : TypeId} {cs : Array Value} (h : Blk w g t cs) : (Ty.at_ t cs.toList).p w (.pointer (some ⟨g, 0, none⟩)) := ⟨g, 0, cs, (0, 0), rfl, h, fun j u hu => by rw [Nat.zero_add]; simpa using hu⟩
theorem run_alloc_i {P : Program} {t : TypeId} {z : Value} {sz b : Nat} (hi : (P.info? t).map (fun i => (i.zero, i.size, i.bytes)) = some (some z, sz, b)) (w : World) : (Instr.alloc t true (.tuple #[])).run P w = .ok (.pointer (some ⟨w.heap.size, 0, none⟩)) (w.alloc (.cells z.cells t)) := by
  obtain ⟨i, h1, h2⟩ := Option.map_eq_some_iff.1 hi
  simp only [Prod.mk.injEq] at h2
  simp [go_sem, zeroValue, typeInfo, h1, h2.1, newVar, newRow, Instr.alloc]
section
variable {P : Program} {w0 : World} {Γ : Ctx} {o : Oper}
theorem OpOk.v {v u : Value} (h : OpOk P w0 Γ o (Ty.ex v)) (e : v = u) : OpOk P w0 Γ o (Ty.ex u) := e ▸ h
theorem OpOk.b {b c : Bool} (h : OpOk P w0 Γ o (Ty.ex (.bool b))) (e : b = c) : OpOk P w0 Γ o (Ty.ex (.bool c)) := e ▸ h
/-- A new variable of the call's own that holds v. -/
theorem cBoxN {t : TypeId} {x : Operand} {v : Value} (ho : o.op = .box t x) (hx : OpT Γ x (Ty.ex v)) : OpOk P w0 Γ o (Ty.var w0 t v.cells) :=
  .new fun a w hb hs => by
    obtain ⟨u, h1, h2⟩ := hs x _ (by simp [ho, Op.operands]) hx
    have h2 : u = v := h2
    subst h2
    refine ⟨.pointer (some ⟨w.heap.size, 0, none⟩), _, ⟨w.heap.size, rfl, hb.size, Blk.new w _ _⟩, ((Keeps.refl [] w).alloc (.cells u.cells t)).below, ?_⟩
    unfold execOp
    simp only [ho, h1]
    simp [Instr.box, newVar, newRow, go_sem]
end
section
variable {P : Program} {ops : Array Oper} {Q : Exit → Act → World → Prop} {rest : List Oper} {o : Oper} {a : Act} {w : World} {N : Nat} {Γ : Ctx}
theorem storeVar_cells (ty : TypeId) (ad : Addr) (v : Value) : storeVar ty ad v = storeVar ty ad (.agg v.cells) := rfl
/-- Whatever value is stored over a variable of the call's own. -/
theorem tlStoreV {ty t : TypeId} {p : Nat} {y : Operand} {g : Nat} {cs : Array Value} {v : Value} {Δ : Ctx} (hF : Fr N Γ a w) (hg : o.guard = none) (hd : o.dst = none) (ho : o.op = .store ty (.tmp p) y) (hp : look Γ p = some (Ty.ex (.pointer (some ⟨g, 0, none⟩)))) (hy : a.eval y = v)
    (hB : Blk w g t cs) (hcs : v.cells.size = cs.size) (hi : (P.info? ty).map (·.size) = some v.cells.size) (h1 : v.cells.all (·.oneCell') = true) (hΔ : Fr N Δ a w) (hfree : Δ.free t = true)
    (hk : ∀ w', Fr N Δ a w' → Blk w' g t v.cells → Keeps [g] w w' → wpList P ops Q rest a w') : wpList P ops Q (o :: rest) a w := by
  refine wpList_plain hg fun K hK => ?_
  unfold Oper.wp execOp
  simp only [ho, hF.getEx hp, hy, Instr.storeAt, Instr.sureAddr, Sem.run_bind, Sem.run_pure, Result.andThen_ok, storeVar_cells ty _ v, run_storeVar_mid w g 0 ty v.cells (hB.there (by omega)) hi h1]
  have h2 := hB.setCells v.cells.toList 0
  rw [splice_all _ _ (by simpa using hcs)] at h2
  have h3 : Keeps [g] w (w.setCells g 0 v.cells.toList) := Keeps.setCells (.inl (by simp)) _ _ (Keeps.refl _ _)
  refine hK _ _ ?_
  rw [hd]
  refine hk _ (hΔ.free h3 (fun b hb _ => ?_) hfree) (by simpa using h2) h3
  simp only [List.mem_singleton] at hb
  subst hb
  exact ⟨cs, (0, 0), hB⟩
end
end Go.Proofs.Ytkdkmnemmenikaa
