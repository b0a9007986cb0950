/- Regions by types: the lines of single operations; the walk of a function by types: entering, branches, loops, returning. -/
import Derived.Test.YtkdkmnemmenikaaTy
namespace Go.Proofs.Ytkdkmnemmenikaa
open Go.RowKit

/-- What Γ says of an operand. -/
def OpT (Γ : Ctx) : Operand → Ty → Prop
  | .tmp s, τ => look Γ s = some τ
  | .const v, τ => Ty.ex v = τ
  | .func f, τ => Ty.ex (.func (.func f) #[] #[]) = τ
  | .global g, τ => Ty.ex (.pointer (some ⟨g, 0, none⟩)) = τ

/-- A call: it returns a value of type V; what lay there lies there. -/
def Ret (P : Program) (f : FuncId) (args : Array Value) (w : World) (V : Ty) : Prop := Calls P f args w fun e w' => ∃ u, e = .returned u ∧ V.p w' u ∧ Below w.heap.size w w'

section
variable {P : Program} {w0 : World} {Γ : Ctx} {o : Oper} {V : Ty}
theorem Ret.mono {f : FuncId} {args : Array Value} {w : World} {τ σ : Ty} (h : Ret P f args w τ) (hc : ∀ w' v, τ.p w' v → σ.p w' v) : Ret P f args w σ :=
  Calls.mono h fun _ _ ⟨u, h1, h2, h3⟩ => ⟨u, h1, hc _ _ h2, h3⟩
theorem Ret.of {f : FuncId} {args : Array Value} {w : World} {v : Value} (h : Calls P f args w fun e w' => e = .returned v ∧ Below w.heap.size w w') : Ret P f args w (Ty.ex v) :=
  Calls.mono h fun _ _ ⟨h1, h2⟩ => ⟨v, h1, rfl, h2⟩
theorem Ret.of_eq {f : FuncId} {args : Array Value} {w : World} {v : Value} (h : Calls P f args w fun e w' => e = .returned v ∧ w = w') : Ret P f args w (Ty.ex v) :=
  Calls.mono h fun _ _ ⟨h1, h2⟩ => ⟨v, h1, rfl, h2 ▸ Below.refl _ _⟩
theorem Ret.of_drew {f : FuncId} {args : Array Value} {w : World} {v : Value} (h : Calls P f args w fun e w' => e = .returned v ∧ ∃ q, w' = w.drewN q) : Ret P f args w (Ty.ex v) :=
  Calls.mono h fun _ _ ⟨h1, q, h2⟩ => ⟨v, h1, rfl, by rw [h2]; exact ((Keeps.refl [] w).drewN q).below⟩

/-- What an operation may know: what Γ says of its operands. -/
def SeesO (Γ : Ctx) (o : Oper) (a : Act) (w : World) : Prop := ∀ x τ, x ∈ o.op.operands.toList → OpT Γ x τ → ∃ v, a.eval x = v ∧ τ.p w v
theorem sees_of {a : Act} {w : World} (h : ∀ (s : Nat) (τ : Ty), s ∈ Oper.reads o → look Γ s = some τ → ∃ v, a.tmps[s]? = some v ∧ τ.p w v) : SeesO Γ o a w := by
  intro x τ hx hT
  cases x with
  | tmp s =>
    obtain ⟨v, h1, h2⟩ := h s τ (by unfold Oper.reads; exact List.mem_filterMap.2 ⟨.tmp s, hx, rfl⟩) hT
    exact ⟨v, by simp [Act.eval, Array.getD_eq_getD_getElem?, h1], h2⟩
  | const v => exact ⟨v, rfl, by rw [← show Ty.ex v = τ from hT]; rfl⟩
  | func f => exact ⟨_, rfl, by rw [← show Ty.ex _ = τ from hT]; rfl⟩
  | «global» g => exact ⟨_, rfl, by rw [← show Ty.ex _ = τ from hT]; rfl⟩
theorem OpOk.val (h : ∀ (a : Act) (w : World), Below w0.heap.size w0 w → SeesO Γ o a w → ∃ v, V.p w v ∧ (execOp a.eval o).run P w = .ok (.value v) w) : OpOk P w0 Γ o V := by
  intro a w K Q hb hs hK
  obtain ⟨v, h1, h2⟩ := h a w hb (sees_of hs)
  unfold Oper.wp
  rw [h2]
  exact hK v w h1 (Below.refl _ _)
theorem OpOk.new (h : ∀ (a : Act) (w : World), Below w0.heap.size w0 w → SeesO Γ o a w → ∃ v w', V.p w' v ∧ Below w.heap.size w w' ∧ (execOp a.eval o).run P w = .ok (.value v) w') : OpOk P w0 Γ o V := by
  intro a w K Q hb hs hK
  obtain ⟨v, w', h1, h2, h3⟩ := h a w hb (sees_of hs)
  unfold Oper.wp
  rw [h3]
  exact hK v w' h1 h2
theorem OpOk.call (h : ∀ (a : Act) (w : World), Below w0.heap.size w0 w → SeesO Γ o a w → ∃ f args, (execOp a.eval o).run P w = .ok (.enter f args) w ∧ Ret P f args w V) : OpOk P w0 Γ o V := by
  intro a w K Q hb hs hK
  obtain ⟨f, args, h1, h2⟩ := h a w hb (sees_of hs)
  unfold Oper.wp
  rw [h1]
  refine Calls.mono h2 fun e w' ⟨u, h3, h4, h5⟩ => ?_
  subst h3
  exact hK u w' h4 h5
theorem OpOk.conv {τ σ : Ty} (h : OpOk P w0 Γ o τ) (hc : ∀ w v, τ.p w v → σ.p w v) : OpOk P w0 Γ o σ :=
  fun a w K Q hb hs hK => h a w K Q hb hs fun v w' h1 h2 => hK v w' (hc _ _ h1) h2

/-! ### Lines -/
theorem cMove {x : Operand} {τ : Ty} (ho : o.op = .move x) (hx : OpT Γ x τ) : OpOk P w0 Γ o τ :=
  .val fun a w _ hs => by
    obtain ⟨v, h1, h2⟩ := hs x τ (by simp [ho, Op.operands]) hx
    exact ⟨v, h2, by unfold execOp; simp [ho, h1]⟩
theorem cAssign {x : Operand} {τ : Ty} (ho : o.op = .assign x) (hx : OpT Γ x τ) : OpOk P w0 Γ o τ :=
  .val fun a w _ hs => by
    obtain ⟨v, h1, h2⟩ := hs x τ (by simp [ho, Op.operands]) hx
    exact ⟨v, h2, by unfold execOp; simp [ho, h1]⟩
theorem cPickT {c x y : Operand} {τ : Ty} (ho : o.op = .pick c x y) (hc : OpT Γ c (Ty.ex (.bool true))) (hx : OpT Γ x τ) : OpOk P w0 Γ o τ :=
  .val fun a w _ hs => by
    obtain ⟨v, h1, h2⟩ := hs x τ (by simp [ho, Op.operands]) hx
    obtain ⟨b, h3, h4⟩ := hs c _ (by simp [ho, Op.operands]) hc
    have h4 : b = .bool true := h4
    exact ⟨v, h2, by unfold execOp; simp [ho, h1, h3, h4, asBool]⟩
theorem cPickF {c x y : Operand} {τ : Ty} (ho : o.op = .pick c x y) (hc : OpT Γ c (Ty.ex (.bool false))) (hy : OpT Γ y τ) : OpOk P w0 Γ o τ :=
  .val fun a w _ hs => by
    obtain ⟨v, h1, h2⟩ := hs y τ (by simp [ho, Op.operands]) hy
    obtain ⟨b, h3, h4⟩ := hs c _ (by simp [ho, Op.operands]) hc
    have h4 : b = .bool false := h4
    exact ⟨v, h2, by unfold execOp; simp [ho, h1, h3, h4, asBool]⟩
theorem cNot {t : TypeId} {x : Operand} {b : Bool} (ho : o.op = .unOp .not t x) (hx : OpT Γ x (Ty.ex (.bool b))) : OpOk P w0 Γ o (Ty.ex (.bool (!b))) :=
  .val fun a w _ hs => by
    obtain ⟨v, h1, h2⟩ := hs x _ (by simp [ho, Op.operands]) hx
    have h2 : v = .bool b := h2
    exact ⟨_, rfl, by unfold execOp; simp [ho, h1, h2, Op.unary]⟩
/-- An operator on two values that are known. -/
theorem cBin {op : BinOp} {t t2 : TypeId} {x y : Operand} {vx vy v : Value} (ho : o.op = .binOp op t x y t2) (hx : OpT Γ x (Ty.ex vx)) (hy : OpT Γ y (Ty.ex vy))
    (hr : ∀ w : World, (do eqGuard op t x y vx vy; binOp op t vx vy : Sem Value).run P w = .ok v w) : OpOk P w0 Γ o (Ty.ex v) :=
  .val fun a w _ hs => by
    obtain ⟨u, h1, h2⟩ := hs x _ (by simp [ho, Op.operands]) hx
    obtain ⟨u', h3, h4⟩ := hs y _ (by simp [ho, Op.operands]) hy
    have h2 : u = vx := h2
    have h4 : u' = vy := h4
    subst h2 h4
    refine ⟨_, rfl, ?_⟩
    have := hr w
    unfold execOp
    simp only [ho, h1, h3]
    rw [Sem.run_bind, this]
    rfl
section
variable {t t2 : TypeId} {x y : Operand} {k : IntKind} {m n : Int}
theorem cLss (ho : o.op = .binOp .lss t x y t2) (hx : OpT Γ x (Ty.ex (.int k m))) (hy : OpT Γ y (Ty.ex (.int k n))) : OpOk P w0 Γ o (Ty.ex (.bool (decide (m < n)))) :=
  cBin ho hx hy fun w => by simp [eqGuard, binOp, Op.intCmp]
theorem cLeq (ho : o.op = .binOp .leq t x y t2) (hx : OpT Γ x (Ty.ex (.int k m))) (hy : OpT Γ y (Ty.ex (.int k n))) : OpOk P w0 Γ o (Ty.ex (.bool (decide (m ≤ n)))) :=
  cBin ho hx hy fun w => by simp [eqGuard, binOp, Op.intCmp]
theorem cGtr (ho : o.op = .binOp .gtr t x y t2) (hx : OpT Γ x (Ty.ex (.int k m))) (hy : OpT Γ y (Ty.ex (.int k n))) : OpOk P w0 Γ o (Ty.ex (.bool (decide (n < m)))) :=
  cBin ho hx hy fun w => by simp [eqGuard, binOp, Op.intCmp]
theorem cGeq (ho : o.op = .binOp .geq t x y t2) (hx : OpT Γ x (Ty.ex (.int k m))) (hy : OpT Γ y (Ty.ex (.int k n))) : OpOk P w0 Γ o (Ty.ex (.bool (decide (n ≤ m)))) :=
  cBin ho hx hy fun w => by simp [eqGuard, binOp, Op.intCmp]
theorem cEql (ho : o.op = .binOp .eql t x y t2) (hx : OpT Γ x (Ty.ex (.int k m))) (hy : OpT Γ y (Ty.ex (.int k n))) : OpOk P w0 Γ o (Ty.ex (.bool (decide (m = n)))) :=
  cBin ho hx hy fun w => by simp [eqGuard, binOp, Op.intCmp]; rfl
theorem cNeq (ho : o.op = .binOp .neq t x y t2) (hx : OpT Γ x (Ty.ex (.int k m))) (hy : OpT Γ y (Ty.ex (.int k n))) : OpOk P w0 Γ o (Ty.ex (.bool (!decide (m = n)))) :=
  cBin ho hx hy fun w => by simp [eqGuard, binOp, Op.intCmp, bne]; rfl
theorem cAddW (ho : o.op = .binOp .add t x y t2) (hx : OpT Γ x (Ty.ex (.int k m))) (hy : OpT Γ y (Ty.ex (.int k n))) : OpOk P w0 Γ o (Ty.ex (.int k (k.wrap (m + n)))) :=
  cBin ho hx hy fun w => by simp [eqGuard, binOp, Op.intArith]
theorem cSubW (ho : o.op = .binOp .sub t x y t2) (hx : OpT Γ x (Ty.ex (.int k m))) (hy : OpT Γ y (Ty.ex (.int k n))) : OpOk P w0 Γ o (Ty.ex (.int k (k.wrap (m - n)))) :=
  cBin ho hx hy fun w => by simp [eqGuard, binOp, Op.intArith]
theorem cMulW (ho : o.op = .binOp .mul t x y t2) (hx : OpT Γ x (Ty.ex (.int k m))) (hy : OpT Γ y (Ty.ex (.int k n))) : OpOk P w0 Γ o (Ty.ex (.int k (k.wrap (m * n)))) :=
  cBin ho hx hy fun w => by simp [eqGuard, binOp, Op.intArith]
theorem cQuoW (ho : o.op = .binOp .quo t x y t2) (hx : OpT Γ x (Ty.ex (.int k m))) (hy : OpT Γ y (Ty.ex (.int k n))) (hn : n ≠ 0) : OpOk P w0 Γ o (Ty.ex (.int k (k.wrap (m.tdiv n)))) :=
  cBin ho hx hy fun w => by simp [eqGuard, binOp, Op.intDiv, hn]
theorem cRem (ho : o.op = .binOp .rem t x y t2) (hx : OpT Γ x (Ty.ex (.int k m))) (hy : OpT Γ y (Ty.ex (.int k n))) (hn : n ≠ 0) : OpOk P w0 Γ o (Ty.ex (.int k (m.tmod n))) :=
  cBin ho hx hy fun w => by simp [eqGuard, binOp, Op.intDiv, hn]
/-- The sum, where it is known to be r. -/
theorem cAdd {r : Int} (ho : o.op = .binOp .add t x y t2) (hx : OpT Γ x (Ty.ex (.int .i64 m))) (hy : OpT Γ y (Ty.ex (.int .i64 n))) (hr : m + n = r ∧ -9223372036854775808 ≤ r ∧ r ≤ 9223372036854775807) : OpOk P w0 Γ o (Ty.ex (.int .i64 r)) := by
  have h := cAddW (P := P) (w0 := w0) ho hx hy
  rwa [IntWalk.i64_in _ (by omega), hr.1] at h
theorem cSub {r : Int} (ho : o.op = .binOp .sub t x y t2) (hx : OpT Γ x (Ty.ex (.int .i64 m))) (hy : OpT Γ y (Ty.ex (.int .i64 n))) (hr : m - n = r ∧ -9223372036854775808 ≤ r ∧ r ≤ 9223372036854775807) : OpOk P w0 Γ o (Ty.ex (.int .i64 r)) := by
  have h := cSubW (P := P) (w0 := w0) ho hx hy
  rwa [IntWalk.i64_in _ (by omega), hr.1] at h
theorem cMul {r : Int} (ho : o.op = .binOp .mul t x y t2) (hx : OpT Γ x (Ty.ex (.int .i64 m))) (hy : OpT Γ y (Ty.ex (.int .i64 n))) (hr : m * n = r ∧ -9223372036854775808 ≤ r ∧ r ≤ 9223372036854775807) : OpOk P w0 Γ o (Ty.ex (.int .i64 r)) := by
  have h := cMulW (P := P) (w0 := w0) ho hx hy
  rwa [hr.1, IntWalk.i64_in _ hr.2] at h
end
theorem cConvInt {src dst : TypeId} {x : Operand} {k j : IntKind} {n : Int} {d : TypeDesc} (ho : o.op = .convert src dst x) (hx : OpT Γ x (Ty.ex (.int j n))) (hs : P.underlying src = some d) (hd : P.underlying dst = some (.int k)) : OpOk P w0 Γ o (Ty.ex (.int k (k.wrap n))) :=
  .val fun a w _ hs' => by
    obtain ⟨v, h1, h2⟩ := hs' x _ (by simp [ho, Op.operands]) hx
    have h2 : v = .int j n := h2
    refine ⟨_, rfl, ?_⟩
    unfold execOp
    simp [ho, h1, h2, convert, run_underlying hs, run_underlying hd, Conv.intToInt]

/-- Slices. -/
def IsSl (τ : Ty) (n : Nat) : Prop := ∀ w v, τ.p w v → ∃ A c, v = .slice A n c
theorem cLen {x : Operand} {τ : Ty} {n : Nat} {t : TypeId} {d : TypeId} (ho : o.op = .call { callee := .builtin .len, args := #[x], argTypes := #[t] }) (hx : OpT Γ x τ) (hl : IsSl τ n) (hu : P.underlying t = some (.slice d)) : OpOk P w0 Γ o (Ty.ex (.int .i64 (n : Int))) :=
  .val fun a w _ hs => by
    obtain ⟨v, h1, h2⟩ := hs x _ (by simp [ho, Op.operands, Call.operands]) hx
    obtain ⟨A, c, rfl⟩ := hl w v h2
    refine ⟨_, rfl, ?_⟩
    unfold execOp
    simp [ho, h1, resolve, invoke, builtin, Builtin.len_, run_underlying hu, goInt]

/-- A tuple's types. -/
def All2 (w : World) : List Value → List Ty → Prop
  | [], [] => True
  | v :: vs, τ :: τs => τ.p w v ∧ All2 w vs τs
  | _, _ => False
theorem All2.st {w w' : World} {S : List Nat} (k : Keeps S w w') : ∀ {vs : List Value} {τs : List Ty}, All2 w vs τs → (∀ τ ∈ τs, Apart w S τ.el) → All2 w' vs τs
  | [], [], _, _ => trivial
  | v :: vs, τ :: τs, h, hA => ⟨τ.st h.1 k (hA τ (by simp)), All2.st k h.2 fun σ hσ => hA σ (by simp [hσ])⟩
  | [], _ :: _, h, _ => h.elim
  | _ :: _, [], h, _ => h.elim
theorem All2.at_ {w : World} : ∀ {vs : List Value} {τs : List Ty} {i : Nat} {τ : Ty}, All2 w vs τs → τs[i]? = some τ → ∃ v, vs[i]? = some v ∧ τ.p w v
  | v :: vs, σ :: τs, 0, τ, h, hi => by
    simp only [List.getElem?_cons_zero, Option.some.injEq] at hi
    subst hi
    exact ⟨v, rfl, h.1⟩
  | v :: vs, σ :: τs, i + 1, τ, h, hi => by
    obtain ⟨u, h1, h2⟩ := All2.at_ (i := i) h.2 (by simpa using hi)
    exact ⟨u, by simpa using h1, h2⟩
  | [], [], i, τ, _, hi => by simp at hi
  | [], _ :: _, _, _, h, _ => h.elim
  | _ :: _, [], _, _, h, _ => h.elim
theorem apart_any {w : World} {S : List Nat} {τs : List Ty} (hA : Apart w S fun t => τs.any fun τ => τ.el t) : ∀ τ ∈ τs, Apart w S τ.el := fun τ hτ b hb hl => by
  obtain ⟨cs, t, fr, h1, h2⟩ := hA b hb hl
  refine ⟨cs, t, fr, h1, ?_⟩
  simp only [List.any_eq_false] at h2
  simpa using h2 τ hτ
def Ty.tup (τs : List Ty) : Ty := ⟨fun w v => ∃ vs : List Value, v = .tuple vs.toArray ∧ All2 w vs τs, fun t => τs.any fun τ => τ.el t, fun ⟨vs, h1, h2⟩ k hA => ⟨vs, h1, h2.st k (apart_any hA)⟩⟩
def Ty.agg (τs : List Ty) : Ty := ⟨fun w v => ∃ vs : List Value, v = .agg vs.toArray ∧ All2 w vs τs, fun t => τs.any fun τ => τ.el t, fun ⟨vs, h1, h2⟩ k hA => ⟨vs, h1, h2.st k (apart_any hA)⟩⟩
theorem cExtract {x : Operand} {τs : List Ty} {i : Nat} {τ : Ty} (ho : o.op = .extract x i) (hx : OpT Γ x (Ty.tup τs)) (hi : τs[i]? = some τ) : OpOk P w0 Γ o τ :=
  .val fun a w _ hs => by
    obtain ⟨v, h1, vs, h2, h3⟩ := hs x _ (by simp [ho, Op.operands]) hx
    obtain ⟨u, h4, h5⟩ := h3.at_ hi
    refine ⟨u, h5, ?_⟩
    unfold execOp
    simp [ho, h1, h2, Instr.extract, h4]

/-! ### Calls -/
def Enters (P : Program) (f : FuncId) : Prop := ∀ (args : Array Value) (w : World), (callFunc f args).run P w = .ok (.enter f args) w
structure Fn0 (P : Program) (f : FuncId) (ρ : Ty) : Prop where
  en : Enters P f
  ret : ∀ w, Ret P f #[] w ρ
structure Fn1 (P : Program) (f : FuncId) (τ ρ : Ty) : Prop where
  en : Enters P f
  ret : ∀ w v, τ.p w v → Ret P f #[v] w ρ
structure Fn2 (P : Program) (f : FuncId) (τ σ ρ : Ty) : Prop where
  en : Enters P f
  ret : ∀ w v u, τ.p w v → σ.p w u → Ret P f #[v, u] w ρ
structure Fn3 (P : Program) (f : FuncId) (τ σ υ ρ : Ty) : Prop where
  en : Enters P f
  ret : ∀ w v u z, τ.p w v → σ.p w u → υ.p w z → Ret P f #[v, u, z] w ρ
theorem exec_go {f : FuncId} {ats : Array TypeId} {xs : Array Operand} (ρ : Operand → Value) (ho : o.op = .call { callee := .value (.func f), args := xs, argTypes := ats }) (hf : ρ (.func f) = .func (.func f) #[] #[]) : execOp ρ o = callFunc f (xs.map ρ) := by
  unfold execOp
  simp only [ho, resolve, hf]
  simp [Deferred.ofValue, invoke]
theorem cCall0 {f : FuncId} {ats : Array TypeId} {ρ : Ty} (ho : o.op = .call { callee := .value (.func f), args := #[], argTypes := ats }) (hc : Fn0 P f ρ) : OpOk P w0 Γ o ρ :=
  .call fun a w _ _ => ⟨f, #[], by rw [exec_go a.eval ho rfl]; simpa using hc.en #[] w, hc.ret w⟩
theorem cCall1 {f : FuncId} {ats : Array TypeId} {x : Operand} {τ ρ : Ty} (ho : o.op = .call { callee := .value (.func f), args := #[x], argTypes := ats }) (hx : OpT Γ x τ) (hc : Fn1 P f τ ρ) : OpOk P w0 Γ o ρ :=
  .call fun a w _ hs => by
    obtain ⟨v, h1, h2⟩ := hs x _ (by simp [ho, Op.operands, Call.operands]) hx
    refine ⟨f, #[v], ?_, hc.ret w v h2⟩
    rw [exec_go a.eval ho rfl]
    simp only [List.map_toArray, List.map_cons, List.map_nil, h1]
    exact hc.en _ w
theorem cCall2 {f : FuncId} {ats : Array TypeId} {x y : Operand} {τ σ ρ : Ty} (ho : o.op = .call { callee := .value (.func f), args := #[x, y], argTypes := ats }) (hx : OpT Γ x τ) (hy : OpT Γ y σ) (hc : Fn2 P f τ σ ρ) : OpOk P w0 Γ o ρ :=
  .call fun a w _ hs => by
    obtain ⟨v, h1, h2⟩ := hs x _ (by simp [ho, Op.operands, Call.operands]) hx
    obtain ⟨u, h3, h4⟩ := hs y _ (by simp [ho, Op.operands, Call.operands]) hy
    refine ⟨f, #[v, u], ?_, hc.ret w v u h2 h4⟩
    rw [exec_go a.eval ho rfl]
    simp only [List.map_toArray, List.map_cons, List.map_nil, h1, h3]
    exact hc.en _ w
theorem cCall3 {f : FuncId} {ats : Array TypeId} {x y z : Operand} {τ σ υ ρ : Ty} (ho : o.op = .call { callee := .value (.func f), args := #[x, y, z], argTypes := ats }) (hx : OpT Γ x τ) (hy : OpT Γ y σ) (hz : OpT Γ z υ) (hc : Fn3 P f τ σ υ ρ) : OpOk P w0 Γ o ρ :=
  .call fun a w _ hs => by
    obtain ⟨v, h1, h2⟩ := hs x _ (by simp [ho, Op.operands, Call.operands]) hx
    obtain ⟨u, h3, h4⟩ := hs y _ (by simp [ho, Op.operands, Call.operands]) hy
    obtain ⟨q, h5, h6⟩ := hs z _ (by simp [ho, Op.operands, Call.operands]) hz
    refine ⟨f, #[v, u, q], ?_, hc.ret w v u q h2 h4 h6⟩
    rw [exec_go a.eval ho rfl]
    simp only [List.map_toArray, List.map_cons, List.map_nil, h1, h3, h5]
    exact hc.en _ w
/-- A call whose contract leans on what lay in w0. -/
theorem cCallW1 {f : FuncId} {ats : Array TypeId} {x : Operand} {τ ρ : Ty} (ho : o.op = .call { callee := .value (.func f), args := #[x], argTypes := ats }) (hx : OpT Γ x τ) (he : Enters P f) (hc : ∀ w v, Below w0.heap.size w0 w → τ.p w v → Ret P f #[v] w ρ) : OpOk P w0 Γ o ρ :=
  .call fun a w hb hs => by
    obtain ⟨v, h1, h2⟩ := hs x _ (by simp [ho, Op.operands, Call.operands]) hx
    refine ⟨f, #[v], ?_, hc w v hb h2⟩
    rw [exec_go a.eval ho rfl]
    simp only [List.map_toArray, List.map_cons, List.map_nil, h1]
    exact he _ w
theorem cCallW2 {f : FuncId} {ats : Array TypeId} {x y : Operand} {τ σ ρ : Ty} (ho : o.op = .call { callee := .value (.func f), args := #[x, y], argTypes := ats }) (hx : OpT Γ x τ) (hy : OpT Γ y σ) (he : Enters P f) (hc : ∀ w v u, Below w0.heap.size w0 w → τ.p w v → σ.p w u → Ret P f #[v, u] w ρ) : OpOk P w0 Γ o ρ :=
  .call fun a w hb hs => by
    obtain ⟨v, h1, h2⟩ := hs x _ (by simp [ho, Op.operands, Call.operands]) hx
    obtain ⟨u, h3, h4⟩ := hs y _ (by simp [ho, Op.operands, Call.operands]) hy
    refine ⟨f, #[v, u], ?_, hc w v u hb h2 h4⟩
    rw [exec_go a.eval ho rfl]
    simp only [List.map_toArray, List.map_cons, List.map_nil, h1, h3]
    exact he _ w
end

/-! ### The walk of a function -/
def ctx0 : Nat → List Ty → Ctx
  | _, [] => []
  | k, τ :: τs => (k, τ) :: ctx0 (k + 1) τs
theorem ctx0_look : ∀ (τs : List Ty) (k s : Nat) (τ : Ty), look (ctx0 k τs) s = some τ → k ≤ s ∧ τs[s - k]? = some τ
  | [], k, s, τ, h => by cases h
  | σ :: τs, k, s, τ, h => by
    by_cases hks : k = s
    · subst hks
      have h' : look ((k, σ) :: ctx0 (k + 1) τs) k = some τ := h
      rw [look_same] at h'
      exact ⟨Nat.le_refl _, by simpa using h'⟩
    · have h' : look ((k, σ) :: ctx0 (k + 1) τs) s = some τ := h
      rw [look_ne _ _ hks] at h'
      obtain ⟨h1, h2⟩ := ctx0_look τs (k + 1) s τ h'
      refine ⟨by omega, ?_⟩
      rw [show s - k = (s - (k + 1)) + 1 by omega, List.getElem?_cons_succ]
      exact h2
section
variable {P : Program} {Γ : Ctx} {N : Nat} {a : Act} {w : World} {Q : Exit → Act → World → Prop}
/-- A function is entered. -/
theorem enter_ty {f : FuncId} {fn : Func} {c : Code} {args : List Value} {R : Ending → World → Prop} (N : Nat) (τs : List Ty) (hf : P.funcs[f]? = some fn) (hb : fn.body = some c) (hN : (fn.ntmps == N && decide (args.length ≤ N)) = true) (hA : All2 w args τs)
    (h : ∀ a, Fr N (ctx0 0 τs) a w → c.wp P (bodyPost P fn R) a w) : Calls P f args.toArray w R := by
  simp only [Bool.and_eq_true, beq_iff_eq, decide_eq_true_eq] at hN
  refine calls_of_wp hf hb (h _ ⟨?_, rfl, fun s τ hs => ?_⟩)
  · simp; omega
  · obtain ⟨_, h1⟩ := ctx0_look τs 0 s τ hs
    obtain ⟨v, h2, h3⟩ := hA.at_ h1
    simp only [Nat.sub_zero] at h2
    refine ⟨v, ?_, h3⟩
    have hl : s < args.length := (List.getElem?_eq_some_iff.1 h2).1
    rw [Array.getElem?_append_left (by simpa using hl)]
    simpa using h2
/-- A branch. -/
theorem cond_ty {s : Nat} {b : Bool} {x y : Code} (hF : Fr N Γ a w) (hs : look Γ s = some (Ty.ex (.bool b))) (ht : b = true → x.wp P Q a w) (hf : b = false → y.wp P Q a w) : (Code.cond (.tmp s) x y).wp P Q a w :=
  wp_cond_split (hF.getEx hs) ht hf
theorem cond_t {s : Nat} {x y : Code} (hF : Fr N Γ a w) (hs : look Γ s = some (Ty.ex (.bool true))) (h : x.wp P Q a w) : (Code.cond (.tmp s) x y).wp P Q a w := wp_cond_true (hF.getEx hs) h
theorem cond_f {s : Nat} {x y : Code} (hF : Fr N Γ a w) (hs : look Γ s = some (Ty.ex (.bool false))) (h : y.wp P Q a w) : (Code.cond (.tmp s) x y).wp P Q a w := wp_cond_false (hF.getEx hs) h
theorem exit_here {id : Nat} (h : Q .normal a w) : (Code.exit id).wp P (Exit.inBlock id Q) a w := wp_exit (by simp only [Exit.inBlock, if_true]; exact h)
theorem exit_far {id j : Nat} (hne : id ≠ j) (h : Q (.exit id) a w) : Exit.inBlock j Q (.exit id) a w := by
  simp only [Exit.inBlock, if_neg hne]
  exact h
/-- A loop: I m holds at the head; m goes down. -/
theorem loop_ty {c : Code} (I : Nat → Act → World → Prop) (m0 : Nat) (h0 : I m0 a w) (round : ∀ m a w, I m a w → c.wp P (Exit.then (fun a' w' => ∃ m', m' < m ∧ I m' a' w') Q) a w) : (Code.loop c).wp P Q a w := by
  intro b k cs
  have key : ∀ (m : Nat) (a : Act) (w : World), I m a w → ∃ e a' w', Q e a' w' ∧ Arrives P (lone (b.at a (.code c :: .inLoop c :: k)) cs w) b k cs e a' w' := by
    intro m
    induction m using Nat.strongRecOn with
    | _ m ih =>
      intro a w hI
      obtain ⟨e, a₁, w₁, hq, harr⟩ := round m a w hI b (.inLoop c :: k) cs
      cases e with
      | normal =>
        obtain ⟨m', hlt, hI₁⟩ := hq
        obtain ⟨e₂, a₂, w₂, hq₂, harr₂⟩ := ih m' hlt a₁ w₁ hI₁
        exact ⟨e₂, a₂, w₂, hq₂, .of_steps (Steps.trans harr (.one step_inLoop)) harr₂⟩
      | exit id => exact ⟨_, a₁, w₁, hq, .pass (x := .inLoop c) rfl (fun _ _ => .inl (by simp)) harr⟩
      | goto l => exact ⟨_, a₁, w₁, hq, .pass (x := .inLoop c) rfl (fun _ _ => .inl (by simp)) harr⟩
      | ret => exact ⟨_, a₁, w₁, hq, .pass (x := .inLoop c) rfl (fun _ _ => .inl (by simp)) harr⟩
      | panic ch => exact ⟨_, a₁, w₁, hq, .pass (x := .inLoop c) rfl (fun _ _ => .inl (by simp)) harr⟩
      | outgrown => exact ⟨_, a₁, w₁, hq, .pass (x := .inLoop c) rfl (fun _ _ => .inl (by simp)) harr⟩
  obtain ⟨e, a', w', hq, harr⟩ := key m0 a w h0
  exact ⟨e, a', w', hq, .of_steps (.one step_loop) harr⟩
/-- A result in a slot. -/
theorem ret1 {fn : Func} {R : Ending → World → Prop} {s : Nat} {τ : Ty} (hF : Fr N Γ a w) (hr : fn.results = #[.tmp s]) (hs : look Γ s = some τ) (h : ∀ v, τ.p w v → R (.returned v) w) : bodyPost P fn R .ret a w := by
  obtain ⟨v, h1, h2⟩ := hF.val s τ hs
  refine bodyPost_ret (v := v) ?_ hF.defers (h v h2)
  simp [results, hr, h1]
theorem ret2 {fn : Func} {R : Ending → World → Prop} {s s2 : Nat} {τ τ2 : Ty} (hF : Fr N Γ a w) (hr : fn.results = #[.tmp s, .tmp s2]) (hs : look Γ s = some τ) (hs2 : look Γ s2 = some τ2) (h : ∀ v u, τ.p w v → τ2.p w u → R (.returned (.tuple #[v, u])) w) : bodyPost P fn R .ret a w := by
  obtain ⟨v, h1, h2⟩ := hF.val s τ hs
  obtain ⟨u, h3, h4⟩ := hF.val s2 τ2 hs2
  refine bodyPost_ret (v := .tuple #[v, u]) ?_ hF.defers (h v u h2 h4)
  simp [results, hr, h1, h3]
/-- A region all of whose operations are lines. -/
theorem reg_all {id : Nat} {l : List Oper} {draw : Bool} {Vs : List Ty} (hF : Fr N Γ a w) (hL : Line P l.toArray w Γ l Vs) (hm : P.follows .mixedOrders = true) (hB : (regB l.toArray N l.length && tailB l.toArray l.length) = true)
    (hQ : ∀ a' w', Fr N (ext Γ l Vs) a' w' → Below w.heap.size w w' → News l a' → Q .normal a' w') : (Code.region id l.toArray draw).wp P Q a w :=
  region_ty l.length hm hB hF (by rw [List.take_length]; exact hL) (fun a' w' h1 h2 h3 => by
    rw [List.take_length] at h1 h3
    rw [List.drop_length]
    exact hQ a' w' h1 h2 h3)
end
end Go.Proofs.Ytkdkmnemmenikaa
