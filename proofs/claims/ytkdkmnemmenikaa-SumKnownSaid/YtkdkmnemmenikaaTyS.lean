/- Regions by types: slices, sums: what is read out of them; what is appended; steps behind a region's head. -/
import Derived.Test.YtkdkmnemmenikaaTyC
import Derived.Test.YtkdkmnemmenikaaSm
namespace Go.Proofs.Ytkdkmnemmenikaa
open Go.RowKit

/-- An operand is of type τ: Γ says so, or it is a letter of which that was known in w0. -/
def Has (w0 : World) (Γ : Ctx) (x : Operand) (τ : Ty) : Prop := ∃ σ, OpT Γ x σ ∧ ∀ w v, Below w0.heap.size w0 w → σ.p w v → τ.p w v
theorem Has.t {w0 : World} {Γ : Ctx} {x : Operand} {τ : Ty} (h : OpT Γ x τ) : Has w0 Γ x τ := ⟨τ, h, fun _ _ _ h => h⟩
theorem Has.l {w0 : World} {Γ : Ctx} {x : Operand} {τ : Ty} {v : Value} (h : OpT Γ x (Ty.ex v)) (hv : τ.p w0 v) : Has w0 Γ x τ := ⟨_, h, fun w u hb e => by have e : u = v := e; subst e; exact τ.below hv hb⟩
theorem Has.see {w0 w : World} {Γ : Ctx} {x : Operand} {τ : Ty} {o : Oper} {a : Act} (h : Has w0 Γ x τ) (hs : SeesO Γ o a w) (hx : x ∈ o.op.operands.toList) (hb : Below w0.heap.size w0 w) : ∃ v, a.eval x = v ∧ τ.p w v := by
  obtain ⟨σ, h1, h2⟩ := h
  obtain ⟨v, h3, h4⟩ := hs x σ hx h1
  exact ⟨v, h3, h2 w v hb h4⟩

/-- A slice of n elements, its memory of type e, that reads xs. -/
def SlP (w : World) (e : TypeId) (v : Value) (n : Nat) (xs : List Value) : Prop :=
  ∃ A c, v = .slice A n c ∧ n ≤ c ∧ c ≤ maxLen ∧ (A = none → n = 0 ∧ c = 0) ∧ ∀ (j : Nat) (u : Value), xs[j]? = some u → ∃ g off cs fr, A = some ⟨g, off, none⟩ ∧ w.heap[g]? = some (.cells cs e fr) ∧ cs[off + j]? = some u
theorem keeps_block {w w' : World} {S : List Nat} (k : Keeps S w w') {el : TypeId → Bool} (hA : Apart w S el) {g : Nat} {cs : Array Value} {e : TypeId} {fr : Nat × Nat} (hg : w.heap[g]? = some (.cells cs e fr)) (he : el e = true) : w'.heap[g]? = some (.cells cs e fr) := by
  have hl : g < w.heap.size := (Array.getElem?_eq_some_iff.1 hg).1
  rw [k.block g hl (fun hm => ?_)]
  · exact hg
  · obtain ⟨cs', t, fr', h1, h2⟩ := hA g hm hl
    rw [hg] at h1
    simp only [Option.some.injEq, Obj.cells.injEq] at h1
    rw [← h1.2.1, he] at h2
    cases h2
def Ty.sl (e : TypeId) (n : Nat) (xs : List Value) : Ty := ⟨fun w v => SlP w e v n xs, fun t => t == e, fun ⟨A, c, h1, h2, h3, h4, h5⟩ k hA => ⟨A, c, h1, h2, h3, h4, fun j u hu =>
  let ⟨g, off, cs, fr, h6, h7, h8⟩ := h5 j u hu; ⟨g, off, cs, fr, h6, keeps_block k hA h7 (by simp), h8⟩⟩⟩
theorem Ty.sl_isSl (e : TypeId) (n : Nat) (xs : List Value) : IsSl (Ty.sl e n xs) n := fun _ _ ⟨A, c, h, _⟩ => ⟨A, c, h⟩
theorem SlP.rd {w : World} {e : TypeId} {A : Option Addr} {n c : Nat} {xs : List Value} (h : SlP w e (.slice A n c) n xs) : Rd w A xs := fun j u hu => by
  obtain ⟨A', c', h1, _, _, _, h5⟩ := h
  injection h1 with h1 _ h2
  subst h1
  obtain ⟨g, off, cs, fr, rfl, h6, h7⟩ := h5 j u hu
  exact ⟨_, rfl, by rw [Addr.add_lit, cell_of_row w g (off + j) cs e fr h6]; exact h7⟩
/-- A slice whose memory is of a type unknown. -/
def Ty.rd (n : Nat) (xs : List Value) : Ty := ⟨fun w v => ∃ A c, v = .slice A n c ∧ n ≤ maxLen ∧ (A = none → n = 0) ∧ Rd w A xs, fun _ => true, fun {w w' v S} h k hA => by
  obtain ⟨A, c, h1, h2, h3, h4⟩ := h
  refine ⟨A, c, h1, h2, h3, fun j u hu => ?_⟩
  obtain ⟨ad, rfl, hc⟩ := h4 j u hu
  have hl := World.block_lt_of_cell? w _ hc
  refine ⟨ad, rfl, (World.cell?_of_block (w := w) (k.block _ hl (fun hm => ?_))).trans hc⟩
  obtain ⟨_, _, _, _, h⟩ := hA _ hm hl
  cases h⟩
theorem Ty.rd_isSl (n : Nat) (xs : List Value) : IsSl (Ty.rd n xs) n := fun _ _ ⟨A, c, h, _⟩ => ⟨A, c, h⟩
/-- A segment, by its blocks' age. -/
theorem Seg.sl {w : World} {e : TypeId} {sz n : Nat} {v : Value} {xs : List Value} {S : List Nat} (h : Seg w e sz v n xs S) : SlP w e v n xs := by
  rcases h with ⟨hl, ⟨rfl, rfl, rfl⟩ | ⟨g, off, cap, cs, rfl, rfl, hb, hs, hn, hm, hx⟩⟩
  · have : xs = [] := List.eq_nil_of_length_eq_zero (by simpa using hl)
    subst this
    refine ⟨none, 0, rfl, Nat.le_refl _, by simp [maxLen], fun _ => ⟨rfl, rfl⟩, fun j u hu => ?_⟩
    simp at hu
  · refine ⟨_, cap, rfl, hn, hm, fun h => (by cases h), fun j u hu => ⟨g, off, cs, (0, 0), rfl, hb, ?_⟩⟩
    have hj : j < n * sz := by rw [← hl]; exact (List.getElem?_eq_some_iff.1 hu).1
    rw [hx j hj, hu]
/-- A slice of the call's own, that may be written and appended to. -/
def Ty.seg (w0 : World) (e : TypeId) (sz n : Nat) (xs : List Value) : Ty := ⟨fun w v => ∃ S, Seg w e sz v n xs S ∧ ∀ y ∈ S, w0.heap.size ≤ y, fun t => t == e, fun {w w' v S'} ⟨S, h1, h2⟩ k hA => by
  refine ⟨S, h1.keeps k (fun x hx hx' => ?_), h2⟩
  rcases h1.2 with ⟨_, _, rfl⟩ | ⟨g, off, cap, cs, _, rfl, hb, _⟩
  · cases hx
  · simp only [List.mem_singleton] at hx
    subst hx
    obtain ⟨cs', t, fr, h3, h4⟩ := hA x hx' hb.lt
    unfold Blk at hb
    rw [hb] at h3
    simp only [Option.some.injEq, Obj.cells.injEq] at h3
    rw [← h3.2.1] at h4
    simp at h4⟩
theorem Ty.seg_isSl (w0 : World) (e : TypeId) (sz n : Nat) (xs : List Value) : IsSl (Ty.seg w0 e sz n xs) n := fun _ _ ⟨_, h, _⟩ => by
  obtain ⟨A, c, h1, _⟩ := h.form
  exact ⟨A, c, h1⟩
theorem seg_sl {w0 : World} {e : TypeId} {sz n : Nat} {xs : List Value} : ∀ w v, (Ty.seg w0 e sz n xs).p w v → (Ty.sl e n xs).p w v := fun _ _ ⟨_, h, _⟩ => h.sl

/-- Cells that are read from an address on. -/
def Ty.at_ (e : TypeId) (xs : List Value) : Ty := ⟨fun w v => ∃ g off cs fr, v = .pointer (some ⟨g, off, none⟩) ∧ w.heap[g]? = some (.cells cs e fr) ∧ ∀ (j : Nat) (u : Value), xs[j]? = some u → cs[off + j]? = some u, fun t => t == e,
  fun ⟨g, off, cs, fr, h1, h2, h3⟩ k hA => ⟨g, off, cs, fr, h1, keeps_block k hA h2 (by simp), h3⟩⟩
/-- Cells of a type unknown. -/
def Ty.atR (xs : List Value) : Ty := ⟨fun w v => ∃ ad, v = .pointer (some ad) ∧ Rd w (some ad) xs ∧ xs ≠ [], fun _ => true, fun {w w' v S} h k hA => by
  obtain ⟨ad, h1, h4, h5⟩ := h
  refine ⟨ad, h1, fun j u hu => ?_, h5⟩
  obtain ⟨ad', e, hc⟩ := h4 j u hu
  injection e with e
  subst e
  have hl := World.block_lt_of_cell? w _ hc
  refine ⟨_, rfl, (World.cell?_of_block (w := w) (k.block _ hl (fun hm => ?_))).trans hc⟩
  obtain ⟨_, _, _, _, h⟩ := hA _ hm hl
  cases h⟩

section
variable {P : Program} {w0 : World} {Γ : Ctx} {o : Oper} {V : Ty}
theorem cLenH {x : Operand} {τ : Ty} {n : Nat} {t : TypeId} {d : TypeId} (ho : o.op = .call { callee := .builtin .len, args := #[x], argTypes := #[t] }) (hx : Has w0 Γ x τ) (hl : IsSl τ n) (hu : P.underlying t = some (.slice d)) : OpOk P w0 Γ o (Ty.ex (.int .i64 (n : Int))) :=
  .val fun a w hb hs => by
    obtain ⟨v, h1, h2⟩ := hx.see hs (by simp [ho, Op.operands, Call.operands]) hb
    obtain ⟨A, c, rfl⟩ := hl w v h2
    refine ⟨_, rfl, ?_⟩
    unfold execOp
    simp [ho, h1, resolve, invoke, builtin, Builtin.len_, run_underlying hu, goInt]
theorem rd_add {w : World} {ad : Addr} {xs : List Value} (h : Rd w (some ad) xs) (k : Nat) : Rd w (some (ad.add k)) (xs.drop k) := by
  have := Rd.dropAt h k
  simpa using this
/-- The address of an element. -/
theorem cIndexR {t e : TypeId} {x ix : Operand} {n k sz : Nat} {kd : IntKind} {xs : List Value} (ho : o.op = .indexAddr t x ix) (hx : Has w0 Γ x (Ty.rd n xs)) (hi : OpT Γ ix (Ty.ex (.int kd (k : Int)))) (hu : P.underlying t = some (.slice e)) (hz : (P.info? e).map (·.size) = some sz) (hk : k < n) (hne : k * sz < xs.length) : OpOk P w0 Γ o (Ty.atR (xs.drop (k * sz))) :=
  .val fun a w hb hs => by
    obtain ⟨v, h1, A, c, rfl, h2, h3, h4⟩ := hx.see hs (by simp [ho, Op.operands]) hb
    obtain ⟨i, h5, h6⟩ := hs ix _ (by simp [ho, Op.operands]) hi
    have h6 : i = .int kd (k : Int) := h6
    obtain ⟨ad, rfl, hc⟩ := h4.at_ hne
    obtain ⟨inf, hinf, hsz⟩ := Option.map_eq_some_iff.1 hz
    refine ⟨_, ⟨ad.add (k * sz), rfl, rd_add h4 _, fun h => ?_⟩, ?_⟩
    · have := congrArg List.length h; simp at this; omega
    · unfold execOp
      simp [ho, h1, h5, h6, Instr.indexAt, asIntOf, run_underlying hu, hk, sizeOf, typeInfo, hinf, hsz]
theorem cIndexS {t e : TypeId} {x ix : Operand} {n k sz : Nat} {kd : IntKind} {xs : List Value} (ho : o.op = .indexAddr t x ix) (hx : Has w0 Γ x (Ty.sl e n xs)) (hi : OpT Γ ix (Ty.ex (.int kd (k : Int)))) (hu : P.underlying t = some (.slice e)) (hz : (P.info? e).map (·.size) = some sz) (hk : k < n) (hne : k * sz < xs.length) : OpOk P w0 Γ o (Ty.at_ e (xs.drop (k * sz))) :=
  .val fun a w hb hs => by
    obtain ⟨v, h1, A, c, rfl, h2, h3, h4, h4'⟩ := hx.see hs (by simp [ho, Op.operands]) hb
    obtain ⟨i, h5, h6⟩ := hs ix _ (by simp [ho, Op.operands]) hi
    have h6 : i = .int kd (k : Int) := h6
    obtain ⟨g, off, cs, fr, rfl, h7, h8⟩ := h4' (k * sz) _ (List.getElem?_eq_getElem hne)
    obtain ⟨inf, hinf, hsz⟩ := Option.map_eq_some_iff.1 hz
    refine ⟨_, ⟨g, off + k * sz, cs, fr, rfl, h7, fun j u hu => ?_⟩, ?_⟩
    · rw [List.getElem?_drop] at hu
      obtain ⟨g', off', cs', fr', e1, h9, h10⟩ := h4' _ u hu
      injection e1 with e1
      injection e1 with e1 e2
      subst e1 e2
      rw [h7] at h9
      injection h9 with h9
      injection h9 with h9
      subst h9
      rw [Nat.add_assoc]
      exact h10
    · unfold execOp
      simp [ho, h1, h5, h6, Instr.indexAt, asIntOf, run_underlying hu, hk, sizeOf, typeInfo, hinf, hsz, Addr.add_lit]
/-- Loads. -/
theorem run_loadVar_rd {w : World} {ty : TypeId} {ad : Addr} {xs : List Value} {d : TypeDesc} (h : Rd w (some ad) xs)
    (hu : P.underlying ty = some d) (hd : (match d with | .struct _ | .array _ _ => true | _ => false) = true) (hi : (P.info? ty).map (·.size) = some xs.length) : (loadVar ty ad).run P w = .ok (.agg xs.toArray) w := by
  have hl := run_loadCells_list (P := P) w ad xs (fun j v hv => by
    obtain ⟨ad', e, hc⟩ := h j v hv
    injection e with e
    subst e
    exact hc)
  obtain ⟨inf, hinf, hsz⟩ := Option.map_eq_some_iff.1 hi
  have hagg : (isAgg ty).run P w = .ok true w := by
    unfold isAgg
    rw [Sem.run_bind, run_underlying hu]
    cases d <;> simp at hd <;> rfl
  unfold loadVar
  rw [Sem.run_bind, hagg]
  simp [sizeOf, typeInfo, hinf, hsz, hl]
theorem run_loadVar_one {w : World} {ty : TypeId} {ad : Addr} {u : Value} {xs : List Value} {d : TypeDesc} (h : Rd w (some ad) (u :: xs))
    (hu : P.underlying ty = some d) (hd : (match d with | .struct _ | .array _ _ => true | _ => false) = false) : (loadVar ty ad).run P w = .ok u w := by
  obtain ⟨ad', e, hc⟩ := h 0 u rfl
  injection e with e
  subst e
  have hagg : (isAgg ty).run P w = .ok false w := by
    unfold isAgg
    rw [Sem.run_bind, run_underlying hu]
    cases d <;> simp at hd <;> rfl
  have hc' : w.cell? ad = some u := by simpa [Addr.add] using hc
  unfold loadVar
  rw [Sem.run_bind, hagg]
  simp [load, Sem.run, hc']
theorem at_rd {w : World} {e : TypeId} {v : Value} {xs : List Value} (h : (Ty.at_ e xs).p w v) : ∃ ad, v = .pointer (some ad) ∧ Rd w (some ad) xs := by
  obtain ⟨g, off, cs, fr, rfl, h1, h2⟩ := h
  exact ⟨_, rfl, fun j u hu => ⟨_, rfl, by rw [Addr.add_lit, cell_of_row w g (off + j) cs e fr h1]; exact h2 j u hu⟩⟩
/-- A type whose values point to cells that read xs. -/
def Pts (τ : Ty) (xs : List Value) : Prop := ∀ w v, τ.p w v → ∃ ad, v = .pointer (some ad) ∧ Rd w (some ad) xs
theorem pts_at (e : TypeId) (xs : List Value) : Pts (Ty.at_ e xs) xs := fun _ _ h => at_rd h
theorem pts_atR (xs : List Value) : Pts (Ty.atR xs) xs := fun _ _ ⟨ad, h1, h2, _⟩ => ⟨ad, h1, h2⟩
theorem cLoadK {ty : TypeId} {x : Operand} {τ : Ty} {k : Nat} {xs : List Value} {d : TypeDesc} (ho : o.op = .load ty x) (hx : Has w0 Γ x τ) (hp : Pts τ xs) (hu : P.underlying ty = some d) (hd : (match d with | .struct _ | .array _ _ => true | _ => false) = true) (hi : (P.info? ty).map (·.size) = some k) (hk : k ≤ xs.length) : OpOk P w0 Γ o (Ty.ex (.agg (xs.take k).toArray)) :=
  .val fun a w hb hs => by
    obtain ⟨v, h1, h2⟩ := hx.see hs (by simp [ho, Op.operands]) hb
    obtain ⟨ad, rfl, h3⟩ := hp w v h2
    refine ⟨_, rfl, ?_⟩
    have h4 := run_loadVar_rd (P := P) (h3.take k) hu hd (by rw [hi]; simp; omega)
    unfold execOp
    simp [ho, h1, Instr.loadAt, Instr.sureAddr, h4]
theorem cLoad1 {ty : TypeId} {x : Operand} {τ : Ty} {u : Value} {xs : List Value} {d : TypeDesc} (ho : o.op = .load ty x) (hx : Has w0 Γ x τ) (hp : Pts τ (u :: xs)) (hu : P.underlying ty = some d) (hd : (match d with | .struct _ | .array _ _ => true | _ => false) = false) : OpOk P w0 Γ o (Ty.ex u) :=
  .val fun a w hb hs => by
    obtain ⟨v, h1, h2⟩ := hx.see hs (by simp [ho, Op.operands]) hb
    obtain ⟨ad, rfl, h3⟩ := hp w v h2
    refine ⟨_, rfl, ?_⟩
    have h4 := run_loadVar_one (P := P) h3 hu hd
    unfold execOp
    simp [ho, h1, Instr.loadAt, Instr.sureAddr, h4]
end

/-! ### Rows of sums -/
def flat (L : List Sm) : List Value := L.flatMap Sm.enc
theorem enc_len (x : Sm) : x.enc.length = 32 := by simp [Sm.enc, x.len]
theorem flat_len (L : List Sm) : (flat L).length = L.length * 32 := by
  unfold flat
  induction L with
  | nil => rfl
  | cons x L ih => rw [List.flatMap_cons, List.length_append, ih, enc_len, List.length_cons, Nat.add_mul]; omega
theorem flat_append (L M : List Sm) : flat (L ++ M) = flat L ++ flat M := List.flatMap_append ..
theorem flat_one (x : Sm) : flat [x] = x.enc := by simp [flat]
theorem flat_drop (L : List Sm) (k : Nat) : (flat L).drop (k * 32) = flat (L.drop k) := by
  induction k generalizing L with
  | zero => simp
  | succ k ih =>
    cases L with
    | nil => simp [flat]
    | cons x L =>
      rw [List.drop_succ_cons, ← ih]
      unfold flat
      rw [List.flatMap_cons, show (k + 1) * 32 = x.enc.length + k * 32 by rw [enc_len]; omega, ← List.drop_drop, List.drop_left]
theorem flat_take (L : List Sm) (k : Nat) : (flat L).take (k * 32) = flat (L.take k) := by
  induction k generalizing L with
  | zero => simp [flat]
  | succ k ih =>
    cases L with
    | nil => simp [flat]
    | cons x L =>
      rw [List.take_succ_cons]
      unfold flat
      rw [List.flatMap_cons, List.flatMap_cons, show (k + 1) * 32 = x.enc.length + k * 32 by rw [enc_len]; omega, List.take_length_add_append]
      congr 1
      exact ih L
theorem drop_get (L : List Sm) {k : Nat} (h : k < L.length) : L.drop k = L.getD k default :: L.drop (k + 1) := by
  rw [List.drop_eq_getElem_cons h]
  simp [List.getD, List.getElem?_eq_getElem h]
theorem flat_at (L : List Sm) {k : Nat} (h : k < L.length) : (flat L).drop (k * 32) = (L.getD k default).enc ++ flat (L.drop (k + 1)) := by
  rw [flat_drop, drop_get L h]
  rfl
theorem enc_u8s (x : Sm) : x.enc.toArray = u8s x.l := rfl
theorem flat_one' {L : List Sm} : ∀ u ∈ flat L, u.oneCell' = true := by
  intro u hu
  obtain ⟨x, _, h⟩ := List.mem_flatMap.1 hu
  obtain ⟨b, _, rfl⟩ := List.mem_map.1 h
  rfl
/-- A row of sums. -/
abbrev Ty.sums (e : TypeId) (L : List Sm) : Ty := Ty.sl e L.length (flat L)
abbrev Ty.sumsR (L : List Sm) : Ty := Ty.rd L.length (flat L)
section
variable {P : Program} {w0 : World} {Γ : Ctx} {o : Oper}
theorem cIndexSum {t e : TypeId} {x ix : Operand} {k : Nat} {kd : IntKind} {L : List Sm} (ho : o.op = .indexAddr t x ix) (hx : Has w0 Γ x (Ty.sums e L)) (hi : OpT Γ ix (Ty.ex (.int kd (k : Int)))) (hu : P.underlying t = some (.slice e)) (hz : (P.info? e).map (·.size) = some 32) (hk : k < L.length) : OpOk P w0 Γ o (Ty.at_ e (L.getD k default).enc) := by
  have h := cIndexS (P := P) ho hx hi hu hz hk (by rw [flat_len]; omega)
  rw [flat_at L hk] at h
  exact h.conv fun w v ⟨g, off, cs, fr, h1, h2, h3⟩ => ⟨g, off, cs, fr, h1, h2, fun j u hu => h3 j u (by rw [List.getElem?_append_left (List.getElem?_eq_some_iff.1 hu).1]; exact hu)⟩
theorem cIndexSumR {t e : TypeId} {x ix : Operand} {k : Nat} {kd : IntKind} {L : List Sm} (ho : o.op = .indexAddr t x ix) (hx : Has w0 Γ x (Ty.sumsR L)) (hi : OpT Γ ix (Ty.ex (.int kd (k : Int)))) (hu : P.underlying t = some (.slice e)) (hz : (P.info? e).map (·.size) = some 32) (hk : k < L.length) : OpOk P w0 Γ o (Ty.atR (L.getD k default).enc) := by
  have h := cIndexR (P := P) ho hx hi hu hz hk (by rw [flat_len]; omega)
  rw [flat_at L hk] at h
  refine h.conv fun w v ⟨ad, h1, h2, h3⟩ => ⟨ad, h1, fun j u hu => h2 j u (by rw [List.getElem?_append_left (List.getElem?_eq_some_iff.1 hu).1]; exact hu), fun h => ?_⟩
  have := congrArg List.length h
  rw [enc_len] at this
  simp at this
theorem cLoadSum {ty e d : TypeId} {x : Operand} {y : Sm} (ho : o.op = .load ty x) (hx : Has w0 Γ x (Ty.at_ e y.enc)) (hu : P.underlying ty = some (.array 32 d)) (hi : (P.info? ty).map (·.size) = some 32) : OpOk P w0 Γ o (Ty.ex (.agg (u8s y.l))) := by
  have h := cLoadK (P := P) ho hx (pts_at e y.enc) hu rfl hi (by rw [enc_len]; omega)
  rwa [List.take_of_length_le (by rw [enc_len]; omega)] at h
theorem cLoadSumR {ty d : TypeId} {x : Operand} {y : Sm} (ho : o.op = .load ty x) (hx : Has w0 Γ x (Ty.atR y.enc)) (hu : P.underlying ty = some (.array 32 d)) (hi : (P.info? ty).map (·.size) = some 32) : OpOk P w0 Γ o (Ty.ex (.agg (u8s y.l))) := by
  have h := cLoadK (P := P) ho hx (pts_atR y.enc) hu rfl hi (by rw [enc_len]; omega)
  rwa [List.take_of_length_le (by rw [enc_len]; omega)] at h
end

/-! ### Steps behind a region's head -/
/-- A frame with fewer slots. -/
def Ctx.sub (Δ Γ : Ctx) : Prop := ∀ s τ, look Δ s = some τ → look Γ s = some τ
theorem Fr.sub {N : Nat} {Γ Δ : Ctx} {a : Act} {w : World} (h : Fr N Γ a w) (hs : Ctx.sub Δ Γ) : Fr N Δ a w := ⟨h.size, h.defers, fun s τ hl => h.val s τ (hs s τ hl)⟩
/-- No word of Γ hangs on memory of type e. -/
def Ctx.free (Γ : Ctx) (e : TypeId) : Bool := Γ.all fun p => !p.2.el e
theorem Ctx.free_look {Γ : Ctx} {e : TypeId} (h : Γ.free e = true) {s : Nat} {τ : Ty} (hs : look Γ s = some τ) : τ.el e = false := by
  induction Γ with
  | nil => cases hs
  | cons p Γ ih =>
    unfold Ctx.free at h
    simp only [List.all_cons, Bool.and_eq_true, Bool.not_eq_true'] at h
    unfold look at hs
    cases hb : Nat.beq p.1 s with
    | true => rw [hb] at hs; simp only [cond_true] at hs; injection hs with hs; rw [← hs]; exact h.1
    | false => rw [hb] at hs; simp only [cond_false] at hs; exact ih h.2 hs
theorem Fr.free {N : Nat} {Γ : Ctx} {a : Act} {w w' : World} (h : Fr N Γ a w) {S : List Nat} (k : Keeps S w w') {e : TypeId} (hS : ∀ b ∈ S, b < w.heap.size → ∃ cs fr, w.heap[b]? = some (.cells cs e fr)) (hf : Γ.free e = true) : Fr N Γ a w' :=
  h.keeps k fun _ _ hs b hb hl => let ⟨cs, fr, h1⟩ := hS b hb hl; ⟨cs, e, fr, h1, Ctx.free_look hf hs⟩
theorem Seg.blocks {w : World} {e : TypeId} {sz n : Nat} {v : Value} {xs : List Value} {S : List Nat} (h : Seg w e sz v n xs S) : ∀ b ∈ S, b < w.heap.size → ∃ cs fr, w.heap[b]? = some (.cells cs e fr) := by
  intro b hb _
  rcases h.2 with ⟨_, _, rfl⟩ | ⟨g, off, cap, cs, _, rfl, hB, _⟩
  · cases hb
  · simp only [List.mem_singleton] at hb
    subst hb
    exact ⟨cs, (0, 0), hB⟩
theorem below_own {w wr w' : World} {S : List Nat} (hB : Below w.heap.size w wr) (hk : Keeps S wr w') (hS : ∀ y ∈ S, w.heap.size ≤ y) : Below w.heap.size w w' := ((Keeps.of_below (S := []) hB).trans' hk fun x hx => .inr (hS x hx)).below
theorem own_next {w wr : World} {S S' : List Nat} (hB : Below w.heap.size w wr) (hS : ∀ y ∈ S, w.heap.size ≤ y) (h : S' = S ∨ S' = [wr.heap.size]) : ∀ y ∈ S', w.heap.size ≤ y := by
  rcases h with rfl | rfl
  · exact hS
  · intro y hy
    simp only [List.mem_singleton] at hy
    subst hy
    exact hB.size
theorem flat_snoc (L : List Sm) {k : Nat} (h : k < L.length) : flat (L.take k) ++ (L.getD k default).enc = flat (L.take (k + 1)) := by
  rw [List.take_succ_eq_append_getElem h, flat_append, flat_one]
  simp [List.getD, List.getElem?_eq_getElem h]
theorem u8s_list (l : List Nat) : (u8s l).toList = l.map bv := by simp [u8s]
section
variable {K : Act → World → Prop} {Q : Exit → Act → World → Prop} {a : Act} {w : World} {id j : Nat}
theorem nThen (h : K a w) : Exit.then K Q .normal a w := h
theorem nBlk (h : Q .normal a w) : Exit.inBlock id Q .normal a w := h
theorem xThen (h : Q (.exit id) a w) : Exit.then K Q (.exit id) a w := h
theorem xHere (h : Q .normal a w) : Exit.inBlock id Q (.exit id) a w := by simp only [Exit.inBlock, if_true]; exact h
theorem xFar (hne : ¬ id = j) (h : Q (.exit id) a w) : Exit.inBlock j Q (.exit id) a w := by simp only [Exit.inBlock, if_neg hne]; exact h
theorem rThen (h : Q .ret a w) : Exit.then K Q .ret a w := h
theorem rBlk (h : Q .ret a w) : Exit.inBlock id Q .ret a w := h
end
/-- Some slots alone. -/
def pick (Γ : Ctx) : List Nat → Ctx
  | [] => []
  | s :: ss => match look Γ s with | some τ => (s, τ) :: pick Γ ss | none => pick Γ ss
theorem Fr.keep {N : Nat} {Γ : Ctx} {a : Act} {w : World} (h : Fr N Γ a w) : ∀ ss : List Nat, Fr N (pick Γ ss) a w
  | [] => h.nil
  | s :: ss => by
    unfold pick
    cases hs : look Γ s with
    | none => exact h.keep ss
    | some τ => exact h.too (h.keep ss) hs
section
variable {P : Program} {ops : Array Oper} {Q : Exit → Act → World → Prop} {rest : List Oper} {o : Oper} {a : Act} {w : World} {N : Nat} {Γ : Ctx}
/-- A line. -/
theorem tlOp {d : Nat} {V : Ty} (hF : Fr N Γ a w) (hg : o.guard = none) (hd : o.dst = some d) (hN : decide (d < N) = true) (h : OpOk P w Γ o V) (hk : ∀ a' w', Fr N ((d, V) :: Γ) a' w' → Below w.heap.size w w' → wpList P ops Q rest a' w') : wpList P ops Q (o :: rest) a w :=
  wpList_plain hg fun K hK => h a w K Q (Below.refl _ _) (fun s τ _ hs => hF.val s τ hs) fun v w' hv hb => by
    rw [hd]
    exact hK _ _ (hk _ _ (hF.put (of_decide_eq_true hN) hb hv) hb)
/-- append to a slice of the call's own: Δ is what is still wanted of the frame. -/
theorem tlAppend {d : Nat} {s : Nat} {x : Operand} {t e : TypeId} {z : Value} {sz bytes n m : Nat} {v : Value} {xs news : List Value} {S : List Nat} {Δ : Ctx} {τ : Ty} (hF : Fr N Γ a w) (hg : o.guard = none) (hd : o.dst = some d) (hN : decide (d < N) = true)
    (ho : o.op = .call { callee := .builtin .append, args := #[.tmp s, x], argTypes := #[t, t] }) (ht : P.underlying t = some (.slice e)) (hi : (P.info? e).map (fun i => (i.zero, i.size, i.bytes)) = some (some z, sz, bytes)) (hzs : z.cells.size = sz)
    (hs : look Γ s = some (Ty.ex v)) (hseg : Seg w e sz v n xs S) (hx : Has w Γ x τ) (hτ : ∀ u, τ.p w u → ∃ A c, u = .slice A m c ∧ (A = none → m = 0) ∧ Rd w A news) (hl : news.length = m * sz) (h1 : ∀ u ∈ news, u.oneCell' = true) (h63 : n + m ≤ maxLen) (hbytes : (n + m) * bytes ≤ 140737488355328)
    (hΔ : Fr N Δ a w) (hfree : Δ.free e = true)
    (hk : ∀ a' w' v' S', Fr N ((d, Ty.ex v') :: Δ) a' w' → Seg w' e sz v' (n + m) (xs ++ news) S' → Keeps S w w' → (S' = S ∨ S' = [w.heap.size]) → wpList P ops Q rest a' w') : wpList P ops Q (o :: rest) a w := by
  have hxv : ∃ u, a.eval x = u ∧ τ.p w u := by
    obtain ⟨σ, hx1, hx2⟩ := hx
    have : ∃ u, a.eval x = u ∧ σ.p w u := by
      cases x with
      | tmp s' => exact hF.get hx1
      | const c => exact ⟨c, rfl, by rw [← show Ty.ex c = σ from hx1]; rfl⟩
      | func f => exact ⟨_, rfl, by rw [← show Ty.ex _ = σ from hx1]; rfl⟩
      | «global» g => exact ⟨_, rfl, by rw [← show Ty.ex _ = σ from hx1]; rfl⟩
    obtain ⟨u, h2, h3⟩ := this
    exact ⟨u, h2, hx2 w u (Below.refl _ _) h3⟩
  obtain ⟨u, hu, hp⟩ := hxv
  obtain ⟨A, c, rfl, hA, hr⟩ := hτ u hp
  refine wpList_append_seg w hg (.tmp s) x t ho e z sz bytes ht hi hzs v n xs S (hF.getEx hs) hseg A m c news hu hl hr hA h1 h63 hbytes fun v' w' S' h2 h3 h4 => ?_
  rw [hd]
  refine hk _ w' v' S' ?_ h2 h3 h4
  exact (hΔ.free h3 hseg.blocks hfree).put (of_decide_eq_true hN) (Below.refl _ _) rfl
end
theorem sl_news {w : World} {e : TypeId} {m : Nat} {news : List Value} : ∀ u, (Ty.sl e m news).p w u → ∃ A c, u = .slice A m c ∧ (A = none → m = 0) ∧ Rd w A news := fun u h => by
  have h' := h
  obtain ⟨A, c, rfl, _, _, h4, _⟩ := h'
  exact ⟨A, c, rfl, fun e => (h4 e).1, SlP.rd h⟩
/-- A slice written out: its memory is new. -/
theorem cBuildSl {P : Program} {w0 : World} {Γ : Ctx} {o : Oper} {t e : TypeId} {n : Nat} {parts : Array (Nat × Operand)} {vals : Array (Nat × Value)} {cs : Array Value} (ho : o.op = .buildSlice t n parts) (hp : ∀ (a : Act) (w : World), SeesO Γ o a w → (parts.map fun (i, x) => (i, a.eval x)) = vals)
    (hn : n ≤ maxLen) (hr : ∀ w : World, (Instr.buildSlice t n vals).run P w = .ok (.slice (some ⟨w.heap.size, 0, none⟩) n n) (w.alloc (.cells cs e))) : OpOk P w0 Γ o (Ty.sl e n cs.toList) :=
  .new fun a w _ hs => by
    refine ⟨.slice (some ⟨w.heap.size, 0, none⟩) n n, _, ?_, ((Keeps.refl [] w).alloc (.cells cs e)).below, ?_⟩
    · exact ⟨_, n, rfl, Nat.le_refl _, hn, fun h => (by cases h), fun j u hu => ⟨w.heap.size, 0, cs, (0, 0), rfl, heap_alloc_new w _, by rw [Nat.zero_add]; simpa using hu⟩⟩
    · have h1 := hp a w hs
      have h2 := hr w
      unfold execOp
      simp only [ho]
      rw [h1, Sem.run_bind, h2]
      rfl
theorem parts1 {Γ : Ctx} {o : Oper} {t : TypeId} {n : Nat} {x : Operand} {v : Value} (ho : o.op = .buildSlice t n #[(0, x)]) (hx : OpT Γ x (Ty.ex v)) : ∀ (a : Act) (w : World), SeesO Γ o a w → ((#[(0, x)] : Array (Nat × Operand)).map fun (i, x) => (i, a.eval x)) = #[(0, v)] := fun a w hs => by
  obtain ⟨u, h1, h2⟩ := hs x _ (by simp [ho, Op.operands]) hx
  have h2 : u = v := h2
  simp [h1, h2]
end Go.Proofs.Ytkdkmnemmenikaa
