/- Regions by types: slices written out; slices whose cells are told by types. -/
import Derived.Test.YtkdkmnemmenikaaTyS
namespace Go.Proofs.Ytkdkmnemmenikaa
open Go.RowKit

theorem foldl_splice (l : List Value) : ∀ (k off : Nat) (cs : Array Value), (l.zipIdx k).foldl (fun cs (p : Value × Nat) => cs.setIfInBounds (off + p.2) p.1) cs = splice cs (off + k) l := by
  induction l with
  | nil => intro k off cs; rfl
  | cons v l ih =>
    intro k off cs
    rw [List.zipIdx_cons, List.foldl_cons, ih (k + 1) off, splice, Nat.add_assoc]
theorem fill_all (sz : Nat) : ∀ (vs : List Value) (k : Nat) (cells : Array Value), (∀ v ∈ vs, v.cells.size = sz) → cells.size = (k + vs.length) * sz →
    ∃ R : Array Value, Instr.fill (fun i => some (i * sz, sz)) cells ((vs.zipIdx k).map fun p => (p.2, p.1)) = some R ∧ R.toList = cells.toList.take (k * sz) ++ (vs.map fun v => v.cells.toList).flatten
  | [], k, cells, _, hs => ⟨cells, rfl, by simp at hs ⊢; rw [List.take_of_length_le (by simp [hs])]⟩
  | v :: vs, k, cells, hv, hs => by
    have hvs := hv v (by simp)
    have hle : k * sz + sz ≤ cells.size := by
      rw [hs, ← Nat.succ_mul]
      exact Nat.mul_le_mul_right _ (by simp)
    have hfold : v.cells.zipIdx.foldl (fun cs (p : Value × Nat) => cs.setIfInBounds (k * sz + p.2) p.1) cells = splice cells (k * sz) v.cells.toList := by
      rw [← Array.foldl_toList, Array.toList_zipIdx, foldl_splice, Nat.add_zero]
    obtain ⟨R, h1, h2⟩ := fill_all sz vs (k + 1) (splice cells (k * sz) v.cells.toList) (fun u hu => hv u (by simp [hu])) (by rw [splice_size, hs, List.length_cons]; congr 1; omega)
    refine ⟨R, ?_, ?_⟩
    · rw [List.zipIdx_cons, List.map_cons]
      unfold Instr.fill
      simp only []
      rw [if_neg (by simp [hvs]; omega)]
      rw [← hfold] at h1
      exact h1
    · rw [h2, List.map_cons, List.flatten_cons, ← List.append_assoc]
      congr 1
      have hvl : v.cells.toList.length = sz := by simpa using hvs
      apply List.ext_getElem?
      intro j
      rw [List.getElem?_take, Array.getElem?_toList, splice_get _ _ _ _ (by rw [hvl]; exact hle), Nat.succ_mul]
      by_cases h3 : j < k * sz
      · rw [if_pos (by omega), if_neg (by omega), List.getElem?_append_left (by simp; omega), List.getElem?_take, if_pos h3]
        simp
      · rw [List.getElem?_append_right (by simp; omega)]
        have e : (List.take (k * sz) cells.toList).length = k * sz := by simp; omega
        rw [e]
        by_cases h4 : j < k * sz + sz
        · rw [if_pos h4, if_pos (by rw [hvl]; omega)]
        · rw [if_neg h4, List.getElem?_eq_none (by rw [hvl]; omega)]
/-- A slice written out. -/
theorem run_buildSlice {P : Program} {t e : TypeId} {z : Value} {sz bytes : Nat} (n : Nat) (vs : List Value) (hu : P.underlying t = some (.slice e)) (hi : (P.info? e).map (fun i => (i.zero, i.size, i.bytes)) = some (some z, sz, bytes))
    (hn : vs.length = n) (hv : ∀ v ∈ vs, v.cells.size = sz) (hbig : n * sz ≤ 16777216) (w : World) :
    (Instr.buildSlice t n ((vs.zipIdx).map fun p => (p.2, p.1)).toArray).run P w = .ok (.slice (some ⟨w.heap.size, 0, none⟩) n n) (w.alloc (.cells (vs.map fun v => v.cells.toList).flatten.toArray e)) := by
  obtain ⟨inf, hinf, hz, hsz, hby⟩ := info_parts hi
  have hsz2 : (Go.sizeOf e).run P w = .ok sz w := by simp [sizeOf, typeInfo, hinf, hsz]
  have hzero : (zeroValue e).run P w = .ok z w := by simp [zeroValue, typeInfo, hinf, hz]
  have key : ∀ zs : Array Value, ∃ R : Array Value, Instr.fill (fun i => some (i * sz, sz)) ((Array.range (n * sz)).map (zs[· % zs.size]!)) (((vs.zipIdx).map fun p => (p.2, p.1)).toArray).toList = some R ∧ R = (vs.map fun v => v.cells.toList).flatten.toArray := fun zs => by
    obtain ⟨R, h1, h2⟩ := fill_all sz vs 0 ((Array.range (n * sz)).map (zs[· % zs.size]!)) hv (by simp [hn])
    exact ⟨R, h1, Array.toList_inj.1 (by rw [h2]; simp)⟩
  unfold Instr.buildSlice
  rw [Sem.run_bind, run_underlying hu]
  simp only [Result.andThen_ok]
  rw [Sem.run_bind, hsz2]
  simp only [Result.andThen_ok]
  rw [if_neg (by omega)]
  by_cases h0 : n * sz = 0
  · obtain ⟨R, h1, rfl⟩ := key #[]
    rw [if_pos h0]
    simp only [pure_bind]
    rw [h1]
    rfl
  · obtain ⟨R, h1, rfl⟩ := key z.cells
    rw [if_neg h0, Sem.run_bind, hzero]
    simp only [Result.andThen_ok, pure_bind]
    rw [h1]
    rfl
theorem parts0 {Γ : Ctx} {o : Oper} : ∀ (a : Act) (w : World), SeesO Γ o a w → ((#[] : Array (Nat × Operand)).map fun (i, x) => (i, a.eval x)) = (([] : List Value).zipIdx.map fun p => (p.2, p.1)).toArray := fun a w _ => by simp
theorem parts1v {Γ : Ctx} {o : Oper} {t : TypeId} {n : Nat} {x : Operand} {v : Value} (ho : o.op = .buildSlice t n #[(0, x)]) (hx : OpT Γ x (Ty.ex v)) : ∀ (a : Act) (w : World), SeesO Γ o a w → ((#[(0, x)] : Array (Nat × Operand)).map fun (i, x) => (i, a.eval x)) = (([v] : List Value).zipIdx.map fun p => (p.2, p.1)).toArray := fun a w hs => by
  obtain ⟨u, h1, h2⟩ := hs x _ (by simp [ho, Op.operands]) hx
  have h2 : u = v := h2
  simp [h1, h2]
theorem parts2v {Γ : Ctx} {o : Oper} {t : TypeId} {n : Nat} {x y : Operand} {v u : Value} (ho : o.op = .buildSlice t n #[(0, x), (1, y)]) (hx : OpT Γ x (Ty.ex v)) (hy : OpT Γ y (Ty.ex u)) : ∀ (a : Act) (w : World), SeesO Γ o a w → ((#[(0, x), (1, y)] : Array (Nat × Operand)).map fun (i, x) => (i, a.eval x)) = (([v, u] : List Value).zipIdx.map fun p => (p.2, p.1)).toArray := fun a w hs => by
  obtain ⟨v', h1, h2⟩ := hs x _ (by simp [ho, Op.operands]) hx
  obtain ⟨u', h3, h4⟩ := hs y _ (by simp [ho, Op.operands]) hy
  have h2 : v' = v := h2
  have h4 : u' = u := h4
  simp [h1, h2, h3, h4]
theorem parts3v {Γ : Ctx} {o : Oper} {t : TypeId} {n : Nat} {x y z : Operand} {v u q : Value} (ho : o.op = .buildSlice t n #[(0, x), (1, y), (2, z)]) (hx : OpT Γ x (Ty.ex v)) (hy : OpT Γ y (Ty.ex u)) (hz : OpT Γ z (Ty.ex q)) : ∀ (a : Act) (w : World), SeesO Γ o a w → ((#[(0, x), (1, y), (2, z)] : Array (Nat × Operand)).map fun (i, x) => (i, a.eval x)) = (([v, u, q] : List Value).zipIdx.map fun p => (p.2, p.1)).toArray := fun a w hs => by
  obtain ⟨v', h1, h2⟩ := hs x _ (by simp [ho, Op.operands]) hx
  obtain ⟨u', h3, h4⟩ := hs y _ (by simp [ho, Op.operands]) hy
  obtain ⟨q', h5, h6⟩ := hs z _ (by simp [ho, Op.operands]) hz
  have h2 : v' = v := h2
  have h4 : u' = u := h4
  have h6 : q' = q := h6
  simp [h1, h2, h3, h4, h5, h6]
/-- A slice of known values. -/
theorem cBuildV {P : Program} {w0 : World} {Γ : Ctx} {o : Oper} {t e : TypeId} {z : Value} {sz bytes : Nat} {n : Nat} {parts : Array (Nat × Operand)} {vs : List Value} (ho : o.op = .buildSlice t n parts) (hp : ∀ (a : Act) (w : World), SeesO Γ o a w → (parts.map fun (i, x) => (i, a.eval x)) = (vs.zipIdx.map fun p => (p.2, p.1)).toArray)
    (hu : P.underlying t = some (.slice e)) (hi : (P.info? e).map (fun i => (i.zero, i.size, i.bytes)) = some (some z, sz, bytes)) (hn : vs.length = n) (hv : ∀ v ∈ vs, v.cells.size = sz) (hbig : n * sz ≤ 16777216) (hm : n ≤ maxLen) :
    OpOk P w0 Γ o (Ty.sl e n (vs.map fun v => v.cells.toList).flatten) := by
  have h := cBuildSl (P := P) (w0 := w0) ho hp hm (fun w => run_buildSlice n vs hu hi hn hv hbig w)
  rwa [List.toList_toArray] at h
/-- Rows of sums, written out. -/
theorem flat_cells (L : List Sm) : ((L.map fun x => (.agg (u8s x.l) : Value)).map fun v => v.cells.toList).flatten = flat L := by
  unfold flat
  rw [List.flatMap_def, List.map_map]
  congr 1
theorem cells_sums (L : List Sm) : ∀ v ∈ (L.map fun x => (.agg (u8s x.l) : Value)), v.cells.size = 32 := by
  intro v hv
  obtain ⟨x, _, rfl⟩ := List.mem_map.1 hv
  show (u8s x.l).size = 32
  rw [u8s_size, x.len]
theorem cBuildSums {P : Program} {w0 : World} {Γ : Ctx} {o : Oper} {t e : TypeId} {z : Value} {bytes n : Nat} {parts : Array (Nat × Operand)} (L : List Sm) (ho : o.op = .buildSlice t n parts) (hp : ∀ (a : Act) (w : World), SeesO Γ o a w → (parts.map fun (i, x) => (i, a.eval x)) = ((L.map fun x => (.agg (u8s x.l) : Value)).zipIdx.map fun p => (p.2, p.1)).toArray)
    (hu : P.underlying t = some (.slice e)) (hi : (P.info? e).map (fun i => (i.zero, i.size, i.bytes)) = some (some z, 32, bytes)) (hn : (decide (L.length = n) && decide (n ≤ 1000)) = true) : OpOk P w0 Γ o (Ty.sums e L) := by
  simp only [Bool.and_eq_true, decide_eq_true_eq] at hn
  have h := cBuildV (P := P) (w0 := w0) ho hp hu hi (by simpa using hn.1) (cells_sums L) (by omega) (by simp [maxLen]; omega)
  rw [flat_cells] at h
  unfold Ty.sums
  rw [hn.1]
  exact h

/-! ### Slices whose cells are told by types -/
def SlT (w : World) (e : TypeId) (v : Value) (n : Nat) (τs : List Ty) : Prop :=
  ∃ A c, v = .slice A n c ∧ n ≤ c ∧ c ≤ maxLen ∧ (A = none → n = 0 ∧ c = 0) ∧ ∀ (j : Nat) (τ : Ty), τs[j]? = some τ → ∃ g off cs fr u, A = some ⟨g, off, none⟩ ∧ w.heap[g]? = some (.cells cs e fr) ∧ cs[off + j]? = some u ∧ τ.p w u
def Ty.slT (e : TypeId) (n : Nat) (τs : List Ty) : Ty := ⟨fun w v => SlT w e v n τs, fun t => t == e || τs.any fun τ => τ.el t, fun {w w' v S} h k hA => by
  obtain ⟨A, c, h1, h2, h3, h4, h5⟩ := h
  refine ⟨A, c, h1, h2, h3, h4, fun j τ hj => ?_⟩
  obtain ⟨g, off, cs, fr, u, h6, h7, h8, h9⟩ := h5 j τ hj
  refine ⟨g, off, cs, fr, u, h6, keeps_block k hA h7 (by simp), h8, τ.st h9 k fun b hb hl => ?_⟩
  obtain ⟨cs', t, fr', h10, h11⟩ := hA b hb hl
  refine ⟨cs', t, fr', h10, ?_⟩
  simp only [Bool.or_eq_false_iff, List.any_eq_false] at h11
  simpa using h11.2 τ (List.mem_of_getElem? hj)⟩
theorem Ty.slT_isSl (e : TypeId) (n : Nat) (τs : List Ty) : IsSl (Ty.slT e n τs) n := fun _ _ ⟨A, c, h, _⟩ => ⟨A, c, h⟩
theorem All2.length {w : World} : ∀ {vs : List Value} {τs : List Ty}, All2 w vs τs → vs.length = τs.length
  | [], [], _ => rfl
  | v :: vs, τ :: τs, h => by simp [All2.length h.2]
  | [], _ :: _, h => h.elim
  | _ :: _, [], h => h.elim
theorem cBuildT {P : Program} {w0 : World} {Γ : Ctx} {o : Oper} {t e : TypeId} {z : Value} {bytes n : Nat} {parts : Array (Nat × Operand)} {τs : List Ty} (ho : o.op = .buildSlice t n parts) (hp : ∀ (a : Act) (w : World), Below w0.heap.size w0 w → SeesO Γ o a w → ∃ vs : List Value, (parts.map fun (i, x) => (i, a.eval x)) = (vs.zipIdx.map fun p => (p.2, p.1)).toArray ∧ All2 w vs τs ∧ ∀ v ∈ vs, v.cells = #[v])
    (hu : P.underlying t = some (.slice e)) (hi : (P.info? e).map (fun i => (i.zero, i.size, i.bytes)) = some (some z, 1, bytes)) (hn : (decide (τs.length = n) && decide (n ≤ 1000)) = true) : OpOk P w0 Γ o (Ty.slT e n τs) :=
  .new fun a w hb hs => by
    simp only [Bool.and_eq_true, decide_eq_true_eq] at hn
    obtain ⟨vs, h1, h2, h3⟩ := hp a w hb hs
    have hl : vs.length = n := h2.length.trans hn.1
    have hr := run_buildSlice (P := P) n vs hu hi hl (fun v hv => by rw [h3 v hv]; rfl) (by omega) w
    have hf : (vs.map fun v => v.cells.toList).flatten = vs := by
      have : (vs.map fun v => v.cells.toList) = vs.map fun v => [v] := List.map_congr_left fun v hv => by rw [h3 v hv]
      rw [this, ← List.flatMap_def]
      simp
    rw [hf] at hr
    have hbl : Below w.heap.size w (w.alloc (.cells vs.toArray e)) := ((Keeps.refl [] w).alloc _).below
    refine ⟨.slice (some ⟨w.heap.size, 0, none⟩) n n, _, ?_, hbl, ?_⟩
    · refine ⟨_, n, rfl, Nat.le_refl _, by simp [maxLen]; omega, fun h => (by cases h), fun j τ hj => ?_⟩
      obtain ⟨u, h4, h5⟩ := h2.at_ hj
      exact ⟨w.heap.size, 0, vs.toArray, (0, 0), u, rfl, heap_alloc_new w _, by rw [Nat.zero_add]; simpa using h4, τ.below h5 hbl⟩
    · unfold execOp
      simp only [ho]
      rw [h1, Sem.run_bind, hr]
      rfl
theorem partsT1 {w0 : World} {Γ : Ctx} {o : Oper} {t : TypeId} {n m : Nat} {x : Operand} {τ : Ty} (ho : o.op = .buildSlice t n #[(0, x)]) (hx : Has w0 Γ x τ) (h1 : IsSl τ m) : ∀ (a : Act) (w : World), Below w0.heap.size w0 w → SeesO Γ o a w → ∃ vs : List Value, ((#[(0, x)] : Array (Nat × Operand)).map fun (i, x) => (i, a.eval x)) = (vs.zipIdx.map fun p => (p.2, p.1)).toArray ∧ All2 w vs [τ] ∧ ∀ v ∈ vs, v.cells = #[v] := fun a w hb hs => by
  obtain ⟨u, h2, h3⟩ := hx.see hs (by simp [ho, Op.operands]) hb
  obtain ⟨A, c, rfl⟩ := h1 w u h3
  exact ⟨[.slice A m c], by simp [h2], ⟨h3, trivial⟩, by simp [Value.cells]⟩
theorem partsT2 {w0 : World} {Γ : Ctx} {o : Oper} {t : TypeId} {n m m' : Nat} {x y : Operand} {τ σ : Ty} (ho : o.op = .buildSlice t n #[(0, x), (1, y)]) (hx : Has w0 Γ x τ) (hy : Has w0 Γ y σ) (h1 : IsSl τ m) (h1' : IsSl σ m') : ∀ (a : Act) (w : World), Below w0.heap.size w0 w → SeesO Γ o a w → ∃ vs : List Value, ((#[(0, x), (1, y)] : Array (Nat × Operand)).map fun (i, x) => (i, a.eval x)) = (vs.zipIdx.map fun p => (p.2, p.1)).toArray ∧ All2 w vs [τ, σ] ∧ ∀ v ∈ vs, v.cells = #[v] := fun a w hb hs => by
  obtain ⟨u, h2, h3⟩ := hx.see hs (by simp [ho, Op.operands]) hb
  obtain ⟨A, c, rfl⟩ := h1 w u h3
  obtain ⟨u', h4, h5⟩ := hy.see hs (by simp [ho, Op.operands]) hb
  obtain ⟨A', c', rfl⟩ := h1' w u' h5
  exact ⟨[.slice A m c, .slice A' m' c'], by simp [h2, h4], ⟨h3, h5, trivial⟩, by simp [Value.cells]⟩
end Go.Proofs.Ytkdkmnemmenikaa
