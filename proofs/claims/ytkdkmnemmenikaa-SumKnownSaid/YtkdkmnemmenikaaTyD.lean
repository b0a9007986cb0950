/- Regions by types: boxes, arrays, slices of slices; calls by any readable slice; more ways of a walk. -/
import Derived.Test.YtkdkmnemmenikaaTyB
namespace Go.Proofs.Ytkdkmnemmenikaa
open Go.RowKit

theorem Has.c {w0 : World} {Γ : Ctx} {x : Operand} {τ σ : Ty} (h : Has w0 Γ x τ) (hc : ∀ w v, τ.p w v → σ.p w v) : Has w0 Γ x σ :=
  let ⟨υ, h1, h2⟩ := h; ⟨υ, h1, fun w v hb hp => hc w v (h2 w v hb hp)⟩
/-- Values that are slices of n elements that read xs. -/
def Reads (τ : Ty) (n : Nat) (xs : List Value) : Prop := ∀ w v, τ.p w v → ∃ A c, v = .slice A n c ∧ n ≤ maxLen ∧ (A = none → n = 0) ∧ Rd w A xs
theorem reads_sl (e : TypeId) (n : Nat) (xs : List Value) : Reads (Ty.sl e n xs) n xs := fun w v h => by
  have h' := h
  obtain ⟨A, c, rfl, h2, h3, h4, _⟩ := h'
  exact ⟨A, c, rfl, Nat.le_trans h2 h3, fun e => (h4 e).1, SlP.rd h⟩
theorem reads_rd (n : Nat) (xs : List Value) : Reads (Ty.rd n xs) n xs := fun _ _ h => h
theorem reads_seg (w0 : World) (e : TypeId) (sz n : Nat) (xs : List Value) : Reads (Ty.seg w0 e sz n xs) n xs := fun w v h => reads_sl e n xs w v (seg_sl w v h)
theorem Reads.isSl {τ : Ty} {n : Nat} {xs : List Value} (h : Reads τ n xs) : IsSl τ n := fun w v hv => let ⟨A, c, h1, _⟩ := h w v hv; ⟨A, c, h1⟩
theorem Reads.to_rd {τ : Ty} {n : Nat} {xs : List Value} (h : Reads τ n xs) : ∀ w v, τ.p w v → (Ty.rd n xs).p w v := h

theorem Has.r {w0 : World} {Γ : Ctx} {x : Operand} {τ : Ty} {n : Nat} {xs : List Value} (h : OpT Γ x τ) (hr : Reads τ n xs) : Has w0 Γ x (Ty.rd n xs) := Has.c (.t h) hr

section
variable {P : Program} {w0 : World} {Γ : Ctx} {o : Oper}
/-- A value is laid into a new block. -/
theorem cBox {t : TypeId} {x : Operand} {v : Value} (ho : o.op = .box t x) (hx : OpT Γ x (Ty.ex v)) : OpOk P w0 Γ o (Ty.at_ t v.cells.toList) :=
  .new fun a w _ hs => by
    obtain ⟨u, h1, h2⟩ := hs x _ (by simp [ho, Op.operands]) hx
    have h2 : u = v := h2
    subst h2
    refine ⟨.pointer (some ⟨w.heap.size, 0, none⟩), _, ⟨w.heap.size, 0, u.cells, (0, 0), rfl, heap_alloc_new w _, fun j z hz => by rw [Nat.zero_add]; simpa using hz⟩, ((Keeps.refl [] w).alloc (.cells u.cells t)).below, ?_⟩
    unfold execOp
    simp only [ho, h1]
    simp [Instr.box, newVar, newRow, go_sem]
theorem cBoxSum {t : TypeId} {x : Operand} {y : Sm} (ho : o.op = .box t x) (hx : OpT Γ x (Ty.ex (.agg (u8s y.l)))) : OpOk P w0 Γ o (Ty.at_ t y.enc) := by
  have h := cBox (P := P) (w0 := w0) ho hx
  rwa [show (Value.agg (u8s y.l)).cells.toList = y.enc from u8s_list y.l] at h
/-- The address of an array's element. -/
theorem cIndexArr {t e ea : TypeId} {x ix : Operand} {n k : Nat} {kd : IntKind} {xs : List Value} (ho : o.op = .indexAddr t x ix) (hx : Has w0 Γ x (Ty.at_ e xs)) (hi : OpT Γ ix (Ty.ex (.int kd (k : Int)))) (hu : P.underlying t = some (.array n ea)) (hz : (P.info? ea).map (·.size) = some 1) (hk : k < n) : OpOk P w0 Γ o (Ty.at_ e (xs.drop k)) :=
  .val fun a w hb hs => by
    obtain ⟨v, h1, g, off, cs, fr, rfl, h2, h3⟩ := hx.see hs (by simp [ho, Op.operands]) hb
    obtain ⟨i, h5, h6⟩ := hs ix _ (by simp [ho, Op.operands]) hi
    have h6 : i = .int kd (k : Int) := h6
    obtain ⟨inf, hinf, hsz⟩ := Option.map_eq_some_iff.1 hz
    refine ⟨_, ⟨g, off + k, cs, fr, rfl, h2, fun j u hu => ?_⟩, ?_⟩
    · rw [List.getElem?_drop] at hu
      rw [Nat.add_assoc]
      exact h3 _ u hu
    · unfold execOp
      simp [ho, h1, h5, h6, Instr.indexAt, Instr.sureAddr, asIntOf, run_underlying hu, hk, sizeOf, typeInfo, hinf, hsz, Addr.add_lit]
/-- An array, as a slice. -/
theorem cSliceArr {t e ea : TypeId} {x : Operand} {n : Nat} {xs : List Value} (ho : o.op = .slice t x none none none) (hx : Has w0 Γ x (Ty.at_ e xs)) (hu : P.underlying t = some (.array n ea)) (hz : (P.info? ea).map (·.size) = some 1) (hn : n ≤ maxLen) : OpOk P w0 Γ o (Ty.sl e n xs) :=
  .val fun a w hb hs => by
    obtain ⟨v, h1, g, off, cs, fr, rfl, h2, h3⟩ := hx.see hs (by simp [ho, Op.operands]) hb
    obtain ⟨inf, hinf, hsz⟩ := Option.map_eq_some_iff.1 hz
    refine ⟨.slice (some ⟨g, off, none⟩) n n, ⟨_, n, rfl, Nat.le_refl _, hn, fun h => (by cases h), fun j u hu => ⟨g, off, cs, fr, rfl, h2, h3 j u hu⟩⟩, ?_⟩
    unfold execOp
    simp [ho, h1, Instr.sliceAt, Instr.sureAddr, Instr.sliceBounds, run_underlying hu, sizeOf, typeInfo, hinf, Addr.add_lit]
/-- xs[k:] -/
theorem cSliceLo {t e : TypeId} {x lo : Operand} {n k sz : Nat} {kd : IntKind} {xs : List Value} (ho : o.op = .slice t x (some lo) none none) (hx : Has w0 Γ x (Ty.sl e n xs)) (hl : OpT Γ lo (Ty.ex (.int kd (k : Int)))) (hu : P.underlying t = some (.slice e)) (hz : (P.info? e).map (·.size) = some sz) (hk : k ≤ n) (hxl : xs.length = n * sz) : OpOk P w0 Γ o (Ty.sl e (n - k) (xs.drop (k * sz))) :=
  .val fun a w hb hs => by
    obtain ⟨v, h1, A, c, rfl, h2, h3, h4, h5⟩ := hx.see hs (by simp [ho, Op.operands]) hb
    obtain ⟨i, h6, h7⟩ := hs lo _ (by simp [ho, Op.operands]) hl
    have h7 : i = .int kd (k : Int) := h7
    obtain ⟨inf, hinf, hsz⟩ := Option.map_eq_some_iff.1 hz
    refine ⟨.slice (if c = k then A else A.map (·.add (k * sz))) (n - k) (c - k), ⟨_, c - k, rfl, by omega, by omega, fun h => ?_, fun j u hu => ?_⟩, ?_⟩
    · split at h
      · have := h4 h; omega
      · have := h4 (by simpa using h); omega
    · rw [List.getElem?_drop] at hu
      obtain ⟨g, off, cs, fr, rfl, h8, h9⟩ := h5 _ u hu
      have hj : k * sz + j < n * sz := by rw [← hxl]; exact (List.getElem?_eq_some_iff.1 hu).1
      have hne : c ≠ k := fun h => by
        subst h
        have : n = c := by omega
        subst this
        omega
      rw [if_neg hne]
      exact ⟨g, off + k * sz, cs, fr, by simp [Addr.add_lit], h8, by rw [Nat.add_assoc]; exact h9⟩
    · unfold execOp
      simp [ho, h1, h6, h7, Instr.sliceAt, Instr.slice, Instr.sliceBounds, Instr.sliceBound, asIntOf, run_underlying hu, sizeOf, typeInfo, hinf, hsz, hk]
/-- xs[:k] -/
theorem cSliceHi {t e : TypeId} {x hi : Operand} {n k sz : Nat} {kd : IntKind} {xs : List Value} (ho : o.op = .slice t x none (some hi) none) (hx : Has w0 Γ x (Ty.sl e n xs)) (hl : OpT Γ hi (Ty.ex (.int kd (k : Int)))) (hu : P.underlying t = some (.slice e)) (hz : (P.info? e).map (·.size) = some sz) (hk : k ≤ n) : OpOk P w0 Γ o (Ty.sl e k (xs.take (k * sz))) :=
  .val fun a w hb hs => by
    obtain ⟨v, h1, A, c, rfl, h2, h3, h4, h5⟩ := hx.see hs (by simp [ho, Op.operands]) hb
    obtain ⟨i, h6, h7⟩ := hs hi _ (by simp [ho, Op.operands]) hl
    have h7 : i = .int kd (k : Int) := h7
    obtain ⟨inf, hinf, hsz⟩ := Option.map_eq_some_iff.1 hz
    refine ⟨.slice A k c, ⟨A, c, rfl, by omega, h3, fun h => ⟨by have := h4 h; omega, (h4 h).2⟩, fun j u hu => ?_⟩, ?_⟩
    · rw [List.getElem?_take] at hu
      split at hu
      · exact h5 j u hu
      · cases hu
    · unfold execOp
      have hkc : k ≤ c := by omega
      by_cases hc0 : c = 0
      · subst hc0
        obtain rfl : k = 0 := by omega
        simp [ho, h1, h6, h7, Instr.sliceAt, Instr.slice, Instr.sliceBounds, Instr.sliceBound, asIntOf, run_underlying hu, sizeOf, typeInfo, hinf]
      · cases A with
        | none => exact absurd (h4 rfl).2 hc0
        | some ad => simp [ho, h1, h6, h7, Instr.sliceAt, Instr.slice, Instr.sliceBounds, Instr.sliceBound, asIntOf, run_underlying hu, sizeOf, typeInfo, hinf, hkc, Addr.add]
/-- Calls by what the arguments are in whatever later world. -/
theorem cCallH1 {f : FuncId} {ats : Array TypeId} {x : Operand} {τ ρ : Ty} (ho : o.op = .call { callee := .value (.func f), args := #[x], argTypes := ats }) (hx : Has w0 Γ x τ) (hc : Fn1 P f τ ρ) : OpOk P w0 Γ o ρ :=
  .call fun a w hb hs => by
    obtain ⟨v, h1, h2⟩ := hx.see hs (by simp [ho, Op.operands, Call.operands]) hb
    refine ⟨f, #[v], ?_, hc.ret w v h2⟩
    rw [exec_go a.eval ho rfl]
    simp only [List.map_toArray, List.map_cons, List.map_nil, h1]
    exact hc.en _ w
theorem cCallH2 {f : FuncId} {ats : Array TypeId} {x y : Operand} {τ σ ρ : Ty} (ho : o.op = .call { callee := .value (.func f), args := #[x, y], argTypes := ats }) (hx : Has w0 Γ x τ) (hy : Has w0 Γ y σ) (hc : Fn2 P f τ σ ρ) : OpOk P w0 Γ o ρ :=
  .call fun a w hb hs => by
    obtain ⟨v, h1, h2⟩ := hx.see hs (by simp [ho, Op.operands, Call.operands]) hb
    obtain ⟨u, h3, h4⟩ := hy.see hs (by simp [ho, Op.operands, Call.operands]) hb
    refine ⟨f, #[v, u], ?_, hc.ret w v u h2 h4⟩
    rw [exec_go a.eval ho rfl]
    simp only [List.map_toArray, List.map_cons, List.map_nil, h1, h3]
    exact hc.en _ w
theorem cCallH3 {f : FuncId} {ats : Array TypeId} {x y z : Operand} {τ σ υ ρ : Ty} (ho : o.op = .call { callee := .value (.func f), args := #[x, y, z], argTypes := ats }) (hx : Has w0 Γ x τ) (hy : Has w0 Γ y σ) (hz : Has w0 Γ z υ) (hc : Fn3 P f τ σ υ ρ) : OpOk P w0 Γ o ρ :=
  .call fun a w hb hs => by
    obtain ⟨v, h1, h2⟩ := hx.see hs (by simp [ho, Op.operands, Call.operands]) hb
    obtain ⟨u, h3, h4⟩ := hy.see hs (by simp [ho, Op.operands, Call.operands]) hb
    obtain ⟨q, h5, h6⟩ := hz.see hs (by simp [ho, Op.operands, Call.operands]) hb
    refine ⟨f, #[v, u, q], ?_, hc.ret w v u q h2 h4 h6⟩
    rw [exec_go a.eval ho rfl]
    simp only [List.map_toArray, List.map_cons, List.map_nil, h1, h3, h5]
    exact hc.en _ w
theorem Fn1.pre {f : FuncId} {τ σ ρ : Ty} (h : Fn1 P f τ ρ) (hc : ∀ w v, σ.p w v → τ.p w v) : Fn1 P f σ ρ := ⟨h.en, fun w v hv => h.ret w v (hc w v hv)⟩
theorem Fn1.post {f : FuncId} {τ ρ υ : Ty} (h : Fn1 P f τ ρ) (hc : ∀ w v, ρ.p w v → υ.p w v) : Fn1 P f τ υ := ⟨h.en, fun w v hv => (h.ret w v hv).mono hc⟩
end

section
variable {P : Program} {Γ : Ctx} {N : Nat} {a : Act} {w : World} {Q : Exit → Act → World → Prop}
theorem ret3 {fn : Func} {R : Ending → World → Prop} {s s2 s3 : Nat} {τ τ2 τ3 : Ty} (hF : Fr N Γ a w) (hr : fn.results = #[.tmp s, .tmp s2, .tmp s3]) (hs : look Γ s = some τ) (hs2 : look Γ s2 = some τ2) (hs3 : look Γ s3 = some τ3) (h : ∀ v u q, τ.p w v → τ2.p w u → τ3.p w q → R (.returned (.tuple #[v, u, q])) w) : bodyPost P fn R .ret a w := by
  obtain ⟨v, h1, h2⟩ := hF.val s τ hs
  obtain ⟨u, h3, h4⟩ := hF.val s2 τ2 hs2
  obtain ⟨q, h5, h6⟩ := hF.val s3 τ3 hs3
  refine bodyPost_ret (v := .tuple #[v, u, q]) ?_ hF.defers (h v u q h2 h4 h6)
  simp [results, hr, h1, h3, h5]
/-- The body's end without a return. -/
theorem end0 {fn : Func} {R : Ending → World → Prop} (hF : Fr N Γ a w) (hr : fn.results = #[]) (h : R (.returned (.tuple #[])) w) : bodyPost P fn R .normal a w :=
  ⟨hF.defers, .tuple #[], by simp [results, hr], h⟩
/-- The result lies in a variable. -/
theorem retCell {fn : Func} {R : Ending → World → Prop} {s : Nat} {ty t : TypeId} {cs : Array Value} {g : Nat} {d : TypeDesc} (hF : Fr N Γ a w) (hr : fn.results = #[.cell s ty]) (hs : look Γ s = some (Ty.ex (.pointer (some ⟨g, 0, none⟩)))) (hB : Blk w g t cs)
    (hu : P.underlying ty = some d) (hd : (match d with | .struct _ | .array _ _ => true | _ => false) = true) (hi : (P.info? ty).map (·.size) = some cs.size) (h : R (.returned (.agg cs)) w) : bodyPost P fn R .ret a w :=
  post_blk hr hF.defers g t cs d (hF.getEx hs) hB hu hd hi h
/-- A whole value is stored over a variable of the call's own. -/
theorem tlStore {ops : Array Oper} {rest : List Oper} {o : Oper} {ty t : TypeId} {p s : Nat} {g : Nat} {cs cells : Array Value} {Δ : Ctx} (hF : Fr N Γ a w) (hg : o.guard = none) (hd : o.dst = none) (ho : o.op = .store ty (.tmp p) (.tmp s)) (hp : look Γ p = some (Ty.ex (.pointer (some ⟨g, 0, none⟩)))) (hs : look Γ s = some (Ty.ex (.agg cells)))
    (hB : Blk w g t cs) (hcs : cells.size = cs.size) (hi : (P.info? ty).map (·.size) = some cells.size) (h1 : cells.all (·.oneCell') = true) (hΔ : Fr N Δ a w) (hfree : Δ.free t = true)
    (hk : ∀ w', Fr N Δ a w' → Blk w' g t cells → Keeps [g] w w' → wpList P ops Q rest a w') : wpList P ops Q (o :: rest) a w :=
  wpList_store_blk hg ty (.tmp p) (.tmp s) ho g t cs cells (hF.getEx hp) (hF.getEx hs) hB hcs hi h1 fun w' h2 h3 => by
    rw [hd]
    refine hk w' (hΔ.free h3 (fun b hb _ => ?_) hfree) h2 h3
    simp only [List.mem_singleton] at hb
    subst hb
    exact ⟨cs, (0, 0), hB⟩
end
end Go.Proofs.Ytkdkmnemmenikaa
