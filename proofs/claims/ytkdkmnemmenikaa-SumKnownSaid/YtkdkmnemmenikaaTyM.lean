/- Regions by types: rows of the call's own that are written: elements stored, rows cleared; calls that act. -/
import Derived.Test.YtkdkmnemmenikaaTyD
import Derived.Lib.SliceRun
namespace Go.Proofs.Ytkdkmnemmenikaa
open Go.RowKit

/-- A segment by its letters: n elements of sz cells in block g from off on, with room for cap. -/
def SegL (w : World) (e : TypeId) (sz g off n cap : Nat) (xs : List Value) : Prop :=
  xs.length = n * sz ∧ n ≤ cap ∧ cap ≤ maxLen ∧ ∃ cs, Blk w g e cs ∧ off + cap * sz ≤ cs.size ∧ ∀ j, j < n * sz → cs[off + j]? = xs[j]?
theorem Seg.cases {w : World} {e : TypeId} {sz n : Nat} {v : Value} {xs : List Value} {S : List Nat} (h : Seg w e sz v n xs S) :
    (v = .slice none 0 0 ∧ n = 0 ∧ xs = [] ∧ S = []) ∨ ∃ g off cap, v = .slice (some ⟨g, off, none⟩) n cap ∧ S = [g] ∧ SegL w e sz g off n cap xs := by
  rcases h with ⟨hl, ⟨rfl, rfl, rfl⟩ | ⟨g, off, cap, cs, rfl, rfl, hb, hs, hn, hm, hx⟩⟩
  · exact .inl ⟨rfl, rfl, List.eq_nil_of_length_eq_zero (by simpa using hl), rfl⟩
  · exact .inr ⟨g, off, cap, rfl, rfl, hl, hn, hm, cs, hb, hs, hx⟩
section
variable {w w' : World} {e : TypeId} {sz g off n cap : Nat} {xs : List Value}
theorem SegL.seg (h : SegL w e sz g off n cap xs) : Seg w e sz (.slice (some ⟨g, off, none⟩) n cap) n xs [g] :=
  let ⟨hl, hn, hm, cs, hb, hs, hx⟩ := h; ⟨hl, .inr ⟨g, off, cap, cs, rfl, rfl, hb, hs, hn, hm, hx⟩⟩
theorem SegL.lt (h : SegL w e sz g off n cap xs) : g < w.heap.size := let ⟨_, _, _, _, hb, _⟩ := h; hb.lt
theorem SegL.keeps (h : SegL w e sz g off n cap xs) {S : List Nat} (k : Keeps S w w') (hg : g ∉ S) : SegL w' e sz g off n cap xs :=
  let ⟨hl, hn, hm, cs, hb, hs, hx⟩ := h; ⟨hl, hn, hm, cs, hb.keeps k hg, hs, hx⟩
theorem SegL.below (h : SegL w e sz g off n cap xs) (hb : Below w.heap.size w w') : SegL w' e sz g off n cap xs := h.keeps (Keeps.of_below (S := []) hb) (by simp)
theorem SegL.block (h : SegL w e sz g off n cap xs) : ∃ cs fr, w.heap[g]? = some (.cells cs e fr) := let ⟨_, _, _, cs, hb, _⟩ := h; ⟨cs, (0, 0), hb⟩
theorem SegL.sl (h : SegL w e sz g off n cap xs) : SlP w e (.slice (some ⟨g, off, none⟩) n cap) n xs := h.seg.sl
/-- Cells written over the cells from k on. -/
def over (xs : List Value) (k : Nat) (vs : List Value) : List Value := xs.take k ++ vs ++ xs.drop (k + vs.length)
theorem over_len {xs vs : List Value} {k : Nat} (h : k + vs.length ≤ xs.length) : (over xs k vs).length = xs.length := by
  unfold over
  simp
  omega
theorem over_get {xs vs : List Value} {k j : Nat} (h : k + vs.length ≤ xs.length) : (over xs k vs)[j]? = if k ≤ j ∧ j < k + vs.length then vs[j - k]? else xs[j]? := by
  unfold over
  by_cases h1 : j < k
  · rw [List.append_assoc, List.getElem?_append_left (by simp; omega), List.getElem?_take, if_pos h1, if_neg (by omega)]
  · by_cases h2 : j < k + vs.length
    · rw [List.getElem?_append_left (by simp; omega), List.getElem?_append_right (by simp; omega), if_pos (by omega)]
      congr 1
      simp
      omega
    · rw [List.getElem?_append_right (by simp; omega), if_neg (by omega), List.getElem?_drop]
      congr 1
      simp
      omega
theorem SegL.write (h : SegL w e sz g off n cap xs) {k : Nat} {vs : List Value} (hk : k + vs.length ≤ n * sz) : SegL (w.setCells g (off + k) vs) e sz g off n cap (over xs k vs) ∧ Keeps [g] w (w.setCells g (off + k) vs) := by
  obtain ⟨hl, hn, hm, cs, hb, hs, hx⟩ := h
  have hle : n * sz ≤ cap * sz := Nat.mul_le_mul_right _ hn
  refine ⟨⟨by rw [over_len (by omega)]; exact hl, hn, hm, _, hb.setCells vs (off + k), by rw [splice_size]; exact hs, fun j hj => ?_⟩, Keeps.setCells (.inl (by simp)) vs (off + k) (Keeps.refl _ _)⟩
  rw [splice_get _ _ _ _ (by omega), over_get (by omega)]
  by_cases hc : k ≤ j ∧ j < k + vs.length
  · rw [if_pos (by omega), if_pos hc]
    congr 1
    omega
  · rw [if_neg (by omega), if_neg hc]
    exact hx j hj
theorem SegL.there (h : SegL w e sz g off n cap xs) {k m : Nat} (hk : k + m ≤ n * sz) : w.there g (off + k) m := by
  obtain ⟨hl, hn, hm, cs, hb, hs, hx⟩ := h
  have hle : n * sz ≤ cap * sz := Nat.mul_le_mul_right _ hn
  exact hb.there (by omega)
end
theorem over_flat (D : List Sm) {k : Nat} (x : Sm) (hk : k < D.length) : over (flat D) (k * 32) x.enc = flat (D.set k x) := by
  unfold over
  rw [enc_len, show k * 32 + 32 = (k + 1) * 32 by omega, flat_take, flat_drop, List.set_eq_take_append_cons_drop, if_pos hk]
  simp [flat]

section
variable {P : Program} {w0 : World} {Γ : Ctx} {o : Oper}
/-- The address of an element of a row of the call's own. -/
theorem cIndexEx {t e : TypeId} {x ix : Operand} {g off n c k sz : Nat} {kd : IntKind} (ho : o.op = .indexAddr t x ix) (hx : OpT Γ x (Ty.ex (.slice (some ⟨g, off, none⟩) n c))) (hi : OpT Γ ix (Ty.ex (.int kd (k : Int)))) (hu : P.underlying t = some (.slice e)) (hz : (P.info? e).map (·.size) = some sz) (hk : k < n) : OpOk P w0 Γ o (Ty.ex (.pointer (some ⟨g, off + k * sz, none⟩))) :=
  .val fun a w _ hs => by
    obtain ⟨v, h1, h2⟩ := hs x _ (by simp [ho, Op.operands]) hx
    obtain ⟨i, h5, h6⟩ := hs ix _ (by simp [ho, Op.operands]) hi
    have h2 : v = .slice (some ⟨g, off, none⟩) n c := h2
    have h6 : i = .int kd (k : Int) := h6
    obtain ⟨inf, hinf, hsz⟩ := Option.map_eq_some_iff.1 hz
    refine ⟨_, rfl, ?_⟩
    unfold execOp
    simp [ho, h1, h2, h5, h6, Instr.indexAt, asIntOf, run_underlying hu, hk, sizeOf, typeInfo, hinf, hsz, Addr.add_lit]
theorem cLenEx {x : Operand} {A : Option Addr} {n c : Nat} {t d : TypeId} (ho : o.op = .call { callee := .builtin .len, args := #[x], argTypes := #[t] }) (hx : OpT Γ x (Ty.ex (.slice A n c))) (hu : P.underlying t = some (.slice d)) : OpOk P w0 Γ o (Ty.ex (.int .i64 (n : Int))) :=
  cLenH ho (.t hx) (fun _ _ e => ⟨A, c, e⟩) hu
/-- xs[k:], xs[:k] of a row of the call's own. -/
theorem cSliceLoEx {t e : TypeId} {x lo : Operand} {g off n c k sz : Nat} {kd : IntKind} (ho : o.op = .slice t x (some lo) none none) (hx : OpT Γ x (Ty.ex (.slice (some ⟨g, off, none⟩) n c))) (hl : OpT Γ lo (Ty.ex (.int kd (k : Int)))) (hu : P.underlying t = some (.slice e)) (hz : (P.info? e).map (·.size) = some sz) (hk : k < n) (hn : n ≤ c) : OpOk P w0 Γ o (Ty.ex (.slice (some ⟨g, off + k * sz, none⟩) (n - k) (c - k))) :=
  .val fun a w _ hs => by
    obtain ⟨v, h1, h2⟩ := hs x _ (by simp [ho, Op.operands]) hx
    obtain ⟨i, h5, h6⟩ := hs lo _ (by simp [ho, Op.operands]) hl
    have h2 : v = .slice (some ⟨g, off, none⟩) n c := h2
    have h6 : i = .int kd (k : Int) := h6
    obtain ⟨inf, hinf, hsz⟩ := Option.map_eq_some_iff.1 hz
    refine ⟨_, rfl, ?_⟩
    have hne : ¬ c = k := by omega
    have hkn : k ≤ n := by omega
    unfold execOp
    simp [ho, h1, h2, h5, h6, Instr.sliceAt, Instr.slice, Instr.sliceBounds, Instr.sliceBound, asIntOf, run_underlying hu, sizeOf, typeInfo, hinf, hsz, hkn, hne, Addr.add_lit]
theorem cSliceHiEx {t e : TypeId} {x hi : Operand} {g off n c k sz : Nat} {kd : IntKind} (ho : o.op = .slice t x none (some hi) none) (hx : OpT Γ x (Ty.ex (.slice (some ⟨g, off, none⟩) n c))) (hl : OpT Γ hi (Ty.ex (.int kd (k : Int)))) (hu : P.underlying t = some (.slice e)) (hz : (P.info? e).map (·.size) = some sz) (hk : k ≤ c) : OpOk P w0 Γ o (Ty.ex (.slice (some ⟨g, off, none⟩) k c)) :=
  .val fun a w _ hs => by
    obtain ⟨v, h1, h2⟩ := hs x _ (by simp [ho, Op.operands]) hx
    obtain ⟨i, h5, h6⟩ := hs hi _ (by simp [ho, Op.operands]) hl
    have h2 : v = .slice (some ⟨g, off, none⟩) n c := h2
    have h6 : i = .int kd (k : Int) := h6
    obtain ⟨inf, hinf, hsz⟩ := Option.map_eq_some_iff.1 hz
    refine ⟨_, rfl, ?_⟩
    unfold execOp
    by_cases h0 : c = 0
    · subst h0
      obtain rfl : k = 0 := by omega
      simp [ho, h1, h2, h5, h6, Instr.sliceAt, Instr.slice, Instr.sliceBounds, Instr.sliceBound, asIntOf, run_underlying hu, sizeOf, typeInfo, hinf]
    · simp [ho, h1, h2, h5, h6, Instr.sliceAt, Instr.slice, Instr.sliceBounds, Instr.sliceBound, asIntOf, run_underlying hu, sizeOf, typeInfo, hinf, hk, Addr.add]
/-- '== nil' -/
theorem cEqlNil {t e t2 : TypeId} {x : Operand} {A : Option Addr} {n c : Nat} (ho : o.op = .binOp .eql t x (.const (.slice none 0 0)) t2) (hx : OpT Γ x (Ty.ex (.slice A n c))) (hu : P.underlying t = some (.slice e)) : OpOk P w0 Γ o (Ty.ex (.bool A.isNone)) :=
  cBin ho hx rfl fun w => by
    have hg : (eqGuard .eql t x (.const (.slice none 0 0)) (.slice A n c) (.slice none 0 0)).run P w = .ok () w := by simp [eqGuard]
    rw [Sem.run_bind, hg]
    exact Lib.run_eql_slice_nil w t e A n c 0 0 hu
/-- A slice of no element, with no room: of the call's own. -/
theorem cBuild0 {t e : TypeId} {z : Value} {sz bytes : Nat} (ho : o.op = .buildSlice t 0 #[]) (hu : P.underlying t = some (.slice e)) (hi : (P.info? e).map (fun i => (i.zero, i.size, i.bytes)) = some (some z, sz, bytes)) : OpOk P w0 Γ o (Ty.seg w0 e sz 0 []) :=
  .new fun a w hb _ => by
    have hr := run_buildSlice (P := P) 0 [] hu hi rfl (by simp) (by omega) w
    refine ⟨.slice (some ⟨w.heap.size, 0, none⟩) 0 0, w.alloc (.cells #[] e), ⟨[w.heap.size], ⟨by simp, .inr ⟨w.heap.size, 0, 0, #[], rfl, rfl, Blk.new w _ _, by simp, Nat.le_refl _, by simp [maxLen], fun j hj => by omega⟩⟩, fun y hy => ?_⟩, ((Keeps.refl [] w).alloc _).below, ?_⟩
    · simp only [List.mem_singleton] at hy
      subst hy
      exact hb.size
    · unfold execOp
      simp only [ho]
      rw [Sem.run_bind]
      have e1 : ((#[] : Array (Nat × Operand)).map fun (i, x) => (i, a.eval x)) = (([] : List Value).zipIdx.map fun p => (p.2, p.1)).toArray := by simp
      rw [e1, hr]
      rfl

/-- A new row with room, its first n elements nought. -/
def Ty.room (w0 : World) (e : TypeId) (sz n : Nat) : Ty := ⟨fun w v => ∃ g c cs, v = .slice (some ⟨g, 0, none⟩) n c ∧ w0.heap.size ≤ g ∧ Blk w g e cs ∧ cs.size = c * sz ∧ n ≤ c ∧ c ≤ maxLen, fun t => t == e, fun {w w' v S} h k hA => by
  obtain ⟨g, c, cs, h1, h2, h3, h4⟩ := h
  exact ⟨g, c, cs, h1, h2, keeps_block k hA h3 (by simp), h4⟩⟩
theorem Ty.room_isSl (w0 : World) (e : TypeId) (sz n : Nat) : IsSl (Ty.room w0 e sz n) n := fun _ _ ⟨_, c, _, h, _⟩ => ⟨_, c, h⟩
theorem cAppendMake {t ti e : TypeId} {x y : Operand} {z : Value} {sz bytes n : Nat} (ho : o.op = .call { callee := .builtin .append, args := #[x, y], argTypes := #[t, ti] }) (hx : OpT Γ x (Ty.ex (.slice none 0 0))) (hy : OpT Γ y (Ty.ex (.int .i64 (n : Int)))) (ht : P.underlying t = some (.slice e)) (hti : P.underlying ti = some (.int .i64)) (hi : (P.info? e).map (fun i => (i.zero, i.size, i.bytes)) = some (some z, sz, bytes)) (hzs : z.cells.size = sz)
    (h0 : 0 < n) (hn : n ≤ maxLen) (hb : n * bytes ≤ 281474976710656) : OpOk P w0 Γ o (Ty.room w0 e sz n) :=
  .new fun a w hbl hs => by
    obtain ⟨u, h1, h2⟩ := hs x _ (by simp [ho, Op.operands, Call.operands]) hx
    obtain ⟨i, h3, h4⟩ := hs y _ (by simp [ho, Op.operands, Call.operands]) hy
    have h2 : u = .slice none 0 0 := h2
    have h4 : i = .int .i64 (n : Int) := h4
    obtain ⟨inf, hinf, hz, hsz, hby⟩ := info_parts hi
    have hn0 : n ≠ 0 := by omega
    have hm : (n : Int) ≤ 9223372036854775807 := by simp only [maxLen] at hn; omega
    have h63' : ¬ (9223372036854775807 < (n : Int)) := by omega
    have h48 : ¬ (281474976710656 < Builtin.nextslicecap n 0 * bytes) := by rw [nextslicecap_zero h0]; omega
    have h48' : ¬ (281474976710656 < (n : Int) * (bytes : Int)) := by
      rw [← Int.natCast_mul]; omega
    have hw : IntKind.i64.wrap (n : Int) = n := IntWalk.i64_in _ (by omega)
    have hneg : ¬ ((n : Int) < 0) := by omega
    have hrun : (Builtin.append_ #[t, ti] o.type #[.slice none 0 0, .int .i64 (n : Int)]).run P w = .ok (.slice (some ⟨w.heap.size, 0, none⟩) n (grownCap w n 0 e)) (w.drew.alloc (.cells ((if n * sz = 0 then #[] else Builtin.zeroCells z.cells n) ++ Builtin.zeroCells z.cells (grownCap w n 0 e - n)) e)) := by
      by_cases hns : n * sz = 0
      · simp [Builtin.append_, run_underlying ht, run_underlying hti, sizeOf, typeInfo, zeroValue, hinf, hz, hsz, hby, asInt, asIntOf, hw, hneg, hn0, h63', h48, h48', Question.forced, run_firstCells_none, newRow, grownCap, hns]
      · simp [Builtin.append_, run_underlying ht, run_underlying hti, sizeOf, typeInfo, zeroValue, hinf, hz, hsz, hby, asInt, asIntOf, hw, hneg, hn0, h63', h48, h48', Question.forced, run_firstCells_none, newRow, grownCap, hns]
    have hge := grownCap_ge w n 0 e
    have hsize : ((if n * sz = 0 then (#[] : Array Value) else Builtin.zeroCells z.cells n) ++ Builtin.zeroCells z.cells (grownCap w n 0 e - n)).size = grownCap w n 0 e * sz := by
      have e1 : (if n * sz = 0 then (#[] : Array Value) else Builtin.zeroCells z.cells n).size = n * sz := by
        split
        · simp; omega
        · rw [size_zeroCells, hzs]
      rw [Array.size_append, e1, size_zeroCells, hzs, ← Nat.add_mul]
      congr 1
      omega
    generalize ((if n * sz = 0 then (#[] : Array Value) else Builtin.zeroCells z.cells n) ++ Builtin.zeroCells z.cells (grownCap w n 0 e - n)) = CS at hrun hsize
    refine ⟨_, w.drew.alloc (.cells CS e), ⟨w.heap.size, grownCap w n 0 e, CS, rfl, hbl.size, Blk.new w.drew _ _, hsize, hge, grownCap_le_maxLen w n 0 e hn⟩, ((Keeps.refl [] w).drew.alloc _).below, ?_⟩
    unfold execOp
    simp only [ho, resolve, invoke, builtin, Sem.run_bind, Sem.run_pure, Result.andThen_ok, List.map_toArray, List.map_cons, List.map_nil, h1, h2, h3, h4, hrun]
theorem cCapNil {x : Operand} {t d : TypeId} (ho : o.op = .call { callee := .builtin .cap, args := #[x], argTypes := #[t] }) (hx : OpT Γ x (Ty.ex (.slice none 0 0))) (hu : P.underlying t = some (.slice d)) : OpOk P w0 Γ o (Ty.ex (.int .i64 0)) :=
  .val fun a w _ hs => by
    obtain ⟨v, h1, h2⟩ := hs x _ (by simp [ho, Op.operands, Call.operands]) hx
    have h2 : v = .slice none 0 0 := h2
    refine ⟨_, rfl, ?_⟩
    unfold execOp
    simp [ho, h1, h2, resolve, invoke, builtin, Builtin.cap_, run_underlying hu, goInt]
theorem cSliceNil {t e : TypeId} {x hi : Operand} {sz : Nat} {kd : IntKind} (ho : o.op = .slice t x none (some hi) none) (hx : OpT Γ x (Ty.ex (.slice none 0 0))) (hl : OpT Γ hi (Ty.ex (.int kd 0))) (hu : P.underlying t = some (.slice e)) (hz : (P.info? e).map (·.size) = some sz) : OpOk P w0 Γ o (Ty.ex (.slice none 0 0)) :=
  .val fun a w _ hs => by
    obtain ⟨v, h1, h2⟩ := hs x _ (by simp [ho, Op.operands]) hx
    obtain ⟨i, h8, h9⟩ := hs hi _ (by simp [ho, Op.operands]) hl
    have h2 : v = .slice none 0 0 := h2
    have h9 : i = .int kd 0 := h9
    obtain ⟨inf, hinf, hsz⟩ := Option.map_eq_some_iff.1 hz
    refine ⟨_, rfl, ?_⟩
    unfold execOp
    simp [ho, h1, h2, h8, h9, Instr.sliceAt, Instr.slice, Instr.sliceBounds, Instr.sliceBound, asIntOf, run_underlying hu, sizeOf, typeInfo, hinf]
/-- s[:0] of such a row. -/
theorem cRoomHi {t e : TypeId} {x hi : Operand} {n sz : Nat} {kd : IntKind} (ho : o.op = .slice t x none (some hi) none) (hx : OpT Γ x (Ty.room w0 e sz n)) (hl : OpT Γ hi (Ty.ex (.int kd 0))) (hu : P.underlying t = some (.slice e)) (hz : (P.info? e).map (·.size) = some sz) : OpOk P w0 Γ o (Ty.seg w0 e sz 0 []) :=
  .val fun a w _ hs => by
    obtain ⟨v, h1, g, c, cs, h2, h3, h4, h5, h6, h7⟩ := hs x _ (by simp [ho, Op.operands]) hx
    obtain ⟨i, h8, h9⟩ := hs hi _ (by simp [ho, Op.operands]) hl
    have h9 : i = .int kd 0 := h9
    obtain ⟨inf, hinf, hsz⟩ := Option.map_eq_some_iff.1 hz
    refine ⟨.slice (some ⟨g, 0, none⟩) 0 c, ⟨[g], ⟨by simp, .inr ⟨g, 0, c, cs, rfl, rfl, h4, by omega, Nat.zero_le _, h7, fun j hj => by omega⟩⟩, fun y hy => ?_⟩, ?_⟩
    · simp only [List.mem_singleton] at hy
      subst hy
      exact h3
    · unfold execOp
      by_cases h0 : c = 0
      · subst h0
        simp [ho, h1, h2, h8, h9, Instr.sliceAt, Instr.slice, Instr.sliceBounds, Instr.sliceBound, asIntOf, run_underlying hu, sizeOf, typeInfo, hinf]
      · simp [ho, h1, h2, h8, h9, Instr.sliceAt, Instr.slice, Instr.sliceBounds, Instr.sliceBound, asIntOf, run_underlying hu, sizeOf, typeInfo, hinf, Addr.add]
/-- Cells told by types, from an address on. -/
def Ty.atT (e : TypeId) (τs : List Ty) : Ty := ⟨fun w v => ∃ g off cs fr, v = .pointer (some ⟨g, off, none⟩) ∧ w.heap[g]? = some (.cells cs e fr) ∧ ∀ (j : Nat) (τ : Ty), τs[j]? = some τ → ∃ u, cs[off + j]? = some u ∧ τ.p w u, fun t => t == e || τs.any fun τ => τ.el t, fun {w w' v S} h k hA => by
  obtain ⟨g, off, cs, fr, h1, h2, h3⟩ := h
  refine ⟨g, off, cs, fr, h1, keeps_block k hA h2 (by simp), fun j τ hj => ?_⟩
  obtain ⟨u, h4, h5⟩ := h3 j τ hj
  refine ⟨u, h4, τ.st h5 k fun b hb hl => ?_⟩
  obtain ⟨cs', t, fr', h10, h11⟩ := hA b hb hl
  refine ⟨cs', t, fr', h10, ?_⟩
  simp only [Bool.or_eq_false_iff, List.any_eq_false] at h11
  simpa using h11.2 τ (List.mem_of_getElem? hj)⟩
theorem cIndexT {t e : TypeId} {x ix : Operand} {n k : Nat} {kd : IntKind} {τs : List Ty} (ho : o.op = .indexAddr t x ix) (hx : Has w0 Γ x (Ty.slT e n τs)) (hi : OpT Γ ix (Ty.ex (.int kd (k : Int)))) (hu : P.underlying t = some (.slice e)) (hz : (P.info? e).map (·.size) = some 1) (hk : k < n) (hne : k < τs.length) : OpOk P w0 Γ o (Ty.atT e (τs.drop k)) :=
  .val fun a w hb hs => by
    obtain ⟨v, h1, A, c, rfl, h2, h3, h4, h4'⟩ := hx.see hs (by simp [ho, Op.operands]) hb
    obtain ⟨i, h5, h6⟩ := hs ix _ (by simp [ho, Op.operands]) hi
    have h6 : i = .int kd (k : Int) := h6
    obtain ⟨g, off, cs, fr, u, rfl, h7, h8, _⟩ := h4' k _ (List.getElem?_eq_getElem hne)
    obtain ⟨inf, hinf, hsz⟩ := Option.map_eq_some_iff.1 hz
    refine ⟨_, ⟨g, off + k, cs, fr, rfl, h7, fun j τ hj => ?_⟩, ?_⟩
    · rw [List.getElem?_drop] at hj
      obtain ⟨g', off', cs', fr', u', e1, h9, h10, h11⟩ := h4' _ τ hj
      injection e1 with e1
      injection e1 with e1 e2
      subst e1 e2
      rw [h7] at h9
      injection h9 with h9
      injection h9 with h9
      subst h9
      exact ⟨u', by rw [Nat.add_assoc]; exact h10, h11⟩
    · unfold execOp
      simp [ho, h1, h5, h6, Instr.indexAt, asIntOf, run_underlying hu, hk, sizeOf, typeInfo, hinf, hsz, Addr.add_lit]
theorem cLoadT {ty e : TypeId} {x : Operand} {τ : Ty} {τs : List Ty} {d : TypeDesc} (ho : o.op = .load ty x) (hx : Has w0 Γ x (Ty.atT e (τ :: τs))) (hu : P.underlying ty = some d) (hd : (match d with | .struct _ | .array _ _ => true | _ => false) = false) : OpOk P w0 Γ o τ :=
  .val fun a w hb hs => by
    obtain ⟨v, h1, g, off, cs, fr, rfl, h2, h3⟩ := hx.see hs (by simp [ho, Op.operands]) hb
    obtain ⟨u, h4, h5⟩ := h3 0 τ rfl
    refine ⟨u, h5, ?_⟩
    have hr : Rd w (some ⟨g, off, none⟩) [u] := fun j z hz => by
      match j, hz with
      | 0, hz =>
        simp only [List.getElem?_cons_zero, Option.some.injEq] at hz
        subst hz
        exact ⟨_, rfl, by rw [Addr.add_lit, cell_of_row w g (off + 0) cs e fr h2]; exact h4⟩
    have h6 := run_loadVar_one (P := P) hr hu hd
    unfold execOp
    simp [ho, h1, Instr.loadAt, Instr.sureAddr, h6]
/-- Calls that hand back a row of the call's own. -/
structure FnSeg1 (P : Program) (f : FuncId) (τ : Ty) (e : TypeId) (sz n : Nat) (xs : List Value) : Prop where
  en : Enters P f
  ret : ∀ w v, τ.p w v → Ret P f #[v] w (Ty.seg w e sz n xs)
structure FnSeg2 (P : Program) (f : FuncId) (τ σ : Ty) (e : TypeId) (sz n : Nat) (xs : List Value) : Prop where
  en : Enters P f
  ret : ∀ w v u, τ.p w v → σ.p w u → Ret P f #[v, u] w (Ty.seg w e sz n xs)
theorem seg_old {w1 w2 : World} (hs : w1.heap.size ≤ w2.heap.size) {e : TypeId} {sz n : Nat} {xs : List Value} : ∀ w v, (Ty.seg w2 e sz n xs).p w v → (Ty.seg w1 e sz n xs).p w v := fun _ _ ⟨S, h, hS⟩ => ⟨S, h, fun y hy => Nat.le_trans hs (hS y hy)⟩
theorem FnSeg1.fn {f : FuncId} {τ : Ty} {e : TypeId} {sz n : Nat} {xs : List Value} (h : FnSeg1 P f τ e sz n xs) : Fn1 P f τ (Ty.sl e n xs) := ⟨h.en, fun w v hv => (h.ret w v hv).mono fun _ _ => seg_sl _ _⟩
theorem FnSeg2.fn {f : FuncId} {τ σ : Ty} {e : TypeId} {sz n : Nat} {xs : List Value} (h : FnSeg2 P f τ σ e sz n xs) : Fn2 P f τ σ (Ty.sl e n xs) := ⟨h.en, fun w v u hv hu => (h.ret w v u hv hu).mono fun _ _ => seg_sl _ _⟩
theorem cCallS1 {f : FuncId} {ats : Array TypeId} {x : Operand} {τ : Ty} {e : TypeId} {sz n : Nat} {xs : List Value} (ho : o.op = .call { callee := .value (.func f), args := #[x], argTypes := ats }) (hx : Has w0 Γ x τ) (hc : FnSeg1 P f τ e sz n xs) : OpOk P w0 Γ o (Ty.seg w0 e sz n xs) :=
  .call fun a w hb hs => by
    obtain ⟨v, h1, h2⟩ := hx.see hs (by simp [ho, Op.operands, Call.operands]) hb
    refine ⟨f, #[v], ?_, (hc.ret w v h2).mono (seg_old hb.size)⟩
    rw [exec_go a.eval ho rfl]
    simp only [List.map_toArray, List.map_cons, List.map_nil, h1]
    exact hc.en _ w
theorem cCallS2 {f : FuncId} {ats : Array TypeId} {x y : Operand} {τ σ : Ty} {e : TypeId} {sz n : Nat} {xs : List Value} (ho : o.op = .call { callee := .value (.func f), args := #[x, y], argTypes := ats }) (hx : Has w0 Γ x τ) (hy : Has w0 Γ y σ) (hc : FnSeg2 P f τ σ e sz n xs) : OpOk P w0 Γ o (Ty.seg w0 e sz n xs) :=
  .call fun a w hb hs => by
    obtain ⟨v, h1, h2⟩ := hx.see hs (by simp [ho, Op.operands, Call.operands]) hb
    obtain ⟨u, h3, h4⟩ := hy.see hs (by simp [ho, Op.operands, Call.operands]) hb
    refine ⟨f, #[v, u], ?_, (hc.ret w v u h2 h4).mono (seg_old hb.size)⟩
    rw [exec_go a.eval ho rfl]
    simp only [List.map_toArray, List.map_cons, List.map_nil, h1, h3]
    exact hc.en _ w
end

section
variable {P : Program} {ops : Array Oper} {Q : Exit → Act → World → Prop} {rest : List Oper} {o : Oper} {a : Act} {w : World} {N : Nat} {Γ : Ctx}
/-- A sum is stored into an element of a row of the call's own. -/
theorem tlStoreAt {Δ : Ctx} {ty e : TypeId} {p s : Nat} {sz g off n cap k : Nat} {xs : List Value} {cells : Array Value} (hF : Fr N Γ a w) (hg : o.guard = none) (hd : o.dst = none) (ho : o.op = .store ty (.tmp p) (.tmp s)) (hp : look Γ p = some (Ty.ex (.pointer (some ⟨g, off + k, none⟩)))) (hs : look Γ s = some (Ty.ex (.agg cells)))
    (hseg : SegL w e sz g off n cap xs) (hk : k + cells.size ≤ n * sz) (hi : (P.info? ty).map (·.size) = some cells.size) (h1 : cells.all (·.oneCell') = true) (hΔ : Fr N Δ a w) (hfree : Δ.free e = true)
    (hq : ∀ w', Fr N Δ a w' → SegL w' e sz g off n cap (over xs k cells.toList) → Keeps [g] w w' → wpList P ops Q rest a w') : wpList P ops Q (o :: rest) a w := by
  refine wpList_store_mid hg ty (.tmp p) (.tmp s) ho g (off + k) cells (hF.getEx hp) (hF.getEx hs) (hseg.there hk) hi h1 ?_
  rw [hd]
  obtain ⟨h2, h3⟩ := hseg.write (k := k) (vs := cells.toList) (by simpa using hk)
  refine hq _ (hΔ.free h3 (fun b hb _ => ?_) hfree) h2 h3
  simp only [List.mem_singleton] at hb
  subst hb
  exact hseg.block
theorem run_clear_row {t ty e : TypeId} {z : Value} {sz bytes g off n cap m : Nat} {xs : List Value} (ht : P.underlying t = some (.slice e)) (hi : (P.info? e).map (fun i => (i.zero, i.size, i.bytes)) = some (some z, sz, bytes)) (hzs : z.cells.size = sz) (hz1 : ∀ u ∈ z.cells.toList, u.oneCell' = true)
    (hseg : SegL w e sz g off n cap xs) {k : Nat} (hkm : k + m ≤ n) (c : Nat) : ∃ zs : List Value, zs.length = m * sz ∧ (Builtin.clear_ #[t] ty #[.slice (some ⟨g, off + k * sz, none⟩) m c]).run P w = .ok (.tuple #[]) (w.setCells g (off + k * sz) zs) := by
  obtain ⟨inf, hinf, hz, hsz, hby⟩ := info_parts hi
  have hle : k * sz + m * sz ≤ n * sz := by rw [← Nat.add_mul]; exact Nat.mul_le_mul_right _ hkm
  by_cases hm : m = 0
  · subst hm
    refine ⟨[], by simp, ?_⟩
    unfold Builtin.clear_
    simp [run_underlying ht, World.setCells]
  · refine ⟨(Builtin.zeroCells z.cells m).toList, by simp [size_zeroCells, hzs], ?_⟩
    have hzc : ∀ u ∈ (Builtin.zeroCells z.cells m).toList, u.oneCell' = true := by
      intro u hu
      rw [Array.mem_toList_iff] at hu
      obtain ⟨i, hi1, rfl⟩ := Array.getElem_of_mem hu
      simp only [Builtin.zeroCells, Array.size_map, Array.size_range] at hi1
      have hp : 0 < z.cells.size := by
        rcases Nat.eq_zero_or_pos z.cells.size with h | h
        · rw [h] at hi1; simp at hi1
        · exact h
      have hlt : i % z.cells.size < z.cells.size := Nat.mod_lt _ hp
      refine hz1 _ ?_
      simp only [Builtin.zeroCells, Array.getElem_map, Array.getElem_range]
      rw [getElem!_pos z.cells _ hlt, Array.mem_toList_iff]
      exact Array.getElem_mem hlt
    have hth := hseg.there (k := k * sz) (m := m * sz) hle
    have hst := run_storeCells_cells (P := P) g (off + k * sz) (Builtin.zeroCells z.cells m).toList 0 w (fun j hj => by have := (hth j (by simpa [size_zeroCells, hzs] using hj)).1; simpa using this)
      (fun j hj => by have := (hth j (by simpa [size_zeroCells, hzs] using hj)).2; simpa using this) hzc
    unfold Builtin.clear_
    simp only [Nat.add_zero] at hst
    cases m with
    | zero => omega
    | succ m => simp [run_underlying ht, zeroValue, typeInfo, hinf, hz, hst]
end
theorem SegL.take {w : World} {e : TypeId} {sz g off n cap : Nat} {xs : List Value} (h : SegL w e sz g off n cap xs) {k : Nat} (hk : k ≤ n) : SegL w e sz g off k cap (xs.take (k * sz)) := by
  obtain ⟨hl, hn, hm, cs, hb, hs, hx⟩ := h
  have hle : k * sz ≤ n * sz := Nat.mul_le_mul_right _ hk
  refine ⟨by simp; omega, by omega, hm, cs, hb, hs, fun j hj => ?_⟩
  rw [List.getElem?_take, if_pos hj]
  exact hx j (by omega)
/-- What stands behind, read as a slice of its own. -/
theorem SegL.drop_sl {w : World} {e : TypeId} {sz g off n cap : Nat} {xs : List Value} (h : SegL w e sz g off n cap xs) {k : Nat} (hk : k ≤ n) : SlP w e (.slice (some ⟨g, off + k * sz, none⟩) (n - k) (cap - k)) (n - k) (xs.drop (k * sz)) := by
  obtain ⟨hl, hn, hm, cs, hb, hs, hx⟩ := h
  refine ⟨_, cap - k, rfl, by omega, by omega, fun h => (by cases h), fun j u hu => ⟨g, off + k * sz, cs, (0, 0), rfl, hb, ?_⟩⟩
  rw [List.getElem?_drop] at hu
  have hj : k * sz + j < n * sz := by rw [← hl]; exact (List.getElem?_eq_some_iff.1 hu).1
  rw [Nat.add_assoc, hx _ hj, hu]
section
variable {P : Program} {ops : Array Oper} {Q : Exit → Act → World → Prop} {rest : List Oper} {o : Oper} {a : Act} {w : World} {N : Nat} {Γ : Ctx}
theorem tlClear {Δ : Ctx} {t e : TypeId} {s : Nat} {z : Value} {sz bytes g off n cap k m c : Nat} {xs : List Value} (hF : Fr N Γ a w) (hg : o.guard = none) (hd : o.dst = none) (ho : o.op = .call { callee := .builtin .clear, args := #[.tmp s], argTypes := #[t] }) (hs : look Γ s = some (Ty.ex (.slice (some ⟨g, off + k * sz, none⟩) m c)))
    (ht : P.underlying t = some (.slice e)) (hi : (P.info? e).map (fun i => (i.zero, i.size, i.bytes)) = some (some z, sz, bytes)) (hzs : z.cells.size = sz) (hz1 : ∀ u ∈ z.cells.toList, u.oneCell' = true) (hseg : SegL w e sz g off n cap xs) (hkm : k + m ≤ n) (hΔ : Fr N Δ a w) (hfree : Δ.free e = true)
    (hq : ∀ w' zs, zs.length = m * sz → Fr N Δ a w' → SegL w' e sz g off n cap (over xs (k * sz) zs) → Keeps [g] w w' → wpList P ops Q rest a w') : wpList P ops Q (o :: rest) a w := by
  obtain ⟨zs, h1, h2⟩ := run_clear_row (P := P) (ty := o.type) ht hi hzs hz1 hseg hkm c
  have hle : k * sz + m * sz ≤ n * sz := by rw [← Nat.add_mul]; exact Nat.mul_le_mul_right _ hkm
  refine wpList_plain hg fun K hK => ?_
  have hev := hF.getEx hs
  unfold Oper.wp execOp
  simp only [ho, resolve, invoke, builtin, Sem.run_bind, Sem.run_pure, Result.andThen_ok, List.map_toArray, List.map_cons, List.map_nil, hev, h2]
  refine hK _ _ ?_
  rw [hd]
  obtain ⟨h3, h4⟩ := hseg.write (k := k * sz) (vs := zs) (by omega)
  refine hq _ zs h1 (hΔ.free h4 (fun b hb _ => ?_) hfree) h3 h4
  simp only [List.mem_singleton] at hb
  subst hb
  exact hseg.block
/-- A call that acts: what comes of it is told by R. -/
theorem tlCall {d : Nat} {f : FuncId} {xs : Array Operand} {ats : Array TypeId} {args : Array Value} {R : Value → World → Prop} (hg : o.guard = none) (hd : o.dst = some d) (ho : o.op = .call { callee := .value (.func f), args := xs, argTypes := ats }) (hx : xs.map a.eval = args) (he : Enters P f)
    (hc : Calls P f args w fun e w' => ∃ u, e = .returned u ∧ R u w') (hk : ∀ u w', R u w' → wpList P ops Q rest (a.put (some d) u) w') : wpList P ops Q (o :: rest) a w :=
  wpList_plain hg fun K hK => by
    unfold Oper.wp
    rw [exec_go a.eval ho rfl, hx, he args w]
    refine Calls.mono hc fun e w' ⟨u, h1, h2⟩ => ?_
    subst h1
    rw [hd]
    exact hK _ _ (hk u w' h2)
end
theorem Fr.free1 {N : Nat} {Γ : Ctx} {a : Act} {w w' : World} {e : TypeId} {sz g off n cap : Nat} {xs : List Value} (h : Fr N Γ a w) (k : Keeps [g] w w') (hseg : SegL w e sz g off n cap xs) (hf : Γ.free e = true) : Fr N Γ a w' :=
  h.free k (fun b hb _ => by
    simp only [List.mem_singleton] at hb
    subst hb
    exact hseg.block) hf
end Go.Proofs.Ytkdkmnemmenikaa
