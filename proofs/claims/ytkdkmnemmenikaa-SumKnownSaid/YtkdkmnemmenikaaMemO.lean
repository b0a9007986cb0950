/- Words for memory: a slice of the call's own, told by its cells (whatever block it lies in); append to it. -/
import Derived.Test.YtkdkmnemmenikaaMemA
import Derived.Laws.IdiomCopy
namespace Go.Proofs.Ytkdkmnemmenikaa
open Go.RowKit

/-- v is a slice of n elements, sz cells each, that reads xs, in a block of S of which nothing else is known to hang; append may write behind it. -/
def Own (w : World) (sz : Nat) (v : Value) (n : Nat) (xs : List Value) (S : List Nat) : Prop :=
  xs.length = n * sz ∧ ((∃ A, v = .slice A 0 0 ∧ n = 0 ∧ S = []) ∨
   ∃ g off cap, v = .slice (some ⟨g, off, none⟩) n cap ∧ S = [g] ∧ n ≤ cap ∧ cap ≤ maxLen ∧ g < w.heap.size ∧ w.there g off (cap * sz) ∧ w.rangeAt g off xs)

section
variable {w w' : World} {sz n : Nat} {v : Value} {xs : List Value} {S : List Nat}
theorem Own.nil (w : World) (sz : Nat) : Own w sz (.slice none 0 0) 0 [] [] := ⟨by simp, .inl ⟨_, rfl, rfl, rfl⟩⟩
theorem Own.lt (h : Own w sz v n xs S) : ∀ x ∈ S, x < w.heap.size := by
  rcases h.2 with ⟨_, _, _, rfl⟩ | ⟨g, off, cap, _, rfl, _, _, hl, _⟩
  · simp
  · intro x hx; simp at hx; subst hx; exact hl
theorem frozen_of_block {p : Addr} (h : w'.heap[p.block]? = w.heap[p.block]?) : w'.frozen? p = w.frozen? p := by
  unfold World.frozen?; rw [h]
theorem Keeps.frozen {S : List Nat} (h : Keeps S w w') {p : Addr} (hp : p.block < w.heap.size) (hn : p.block ∉ S) : w'.frozen? p = w.frozen? p :=
  frozen_of_block (h.block p.block hp hn)
theorem Own.keeps {S' : List Nat} (h : Own w sz v n xs S) (k : Keeps S' w w') (hd : ∀ x ∈ S, x ∉ S') : Own w' sz v n xs S := by
  refine ⟨h.1, ?_⟩
  rcases h.2 with h2 | ⟨g, off, cap, hv, rfl, hn, hm, hl, ht, hr⟩
  · exact .inl h2
  · have hg : g ∉ S' := hd g (by simp)
    refine .inr ⟨g, off, cap, hv, rfl, hn, hm, Nat.lt_of_lt_of_le hl k.size, fun j hj => ?_, fun j u hu => ?_⟩
    · rw [k.cell (p := ⟨g, off + j, none⟩) hl hg, k.frozen (p := ⟨g, off + j, none⟩) hl hg]; exact ht j hj
    · rw [k.cell (p := ⟨g, off + j, none⟩) hl hg]; exact hr j u hu
theorem Own.below (h : Own w sz v n xs S) (k : Below w.heap.size w w') : Own w' sz v n xs S := h.keeps (Keeps.of_below (S := []) k) (by simp)
theorem Own.drew (h : Own w sz v n xs S) : Own w.drew sz v n xs S := h
theorem Own.drewN (h : Own w sz v n xs S) (m : Nat) : Own (w.drewN m) sz v n xs S := h
theorem Own.alloc (h : Own w sz v n xs S) (o : Obj) : Own (w.alloc o) sz v n xs S := h.keeps ((Keeps.refl [] w).alloc o) (by simp)
/-- As a value: its address, its cells. -/
theorem Own.form (h : Own w sz v n xs S) : ∃ A cap, v = .slice A n cap ∧ n ≤ cap ∧ cap ≤ maxLen ∧ Rd w A xs ∧ (A = none → n = 0 ∧ cap = 0) := by
  rcases h.2 with ⟨A, hv, rfl, rfl⟩ | ⟨g, off, cap, hv, rfl, hn, hm, hl, ht, hr⟩
  · have : xs = [] := List.eq_nil_of_length_eq_zero (by simpa using h.1)
    subst this
    exact ⟨A, 0, hv, Nat.le_refl _, by simp [maxLen], Rd.nil _ _, by simp⟩
  · exact ⟨_, cap, hv, hn, hm, fun j u hu => ⟨_, rfl, by rw [Addr.add_lit]; exact hr j u hu⟩, by simp⟩
theorem Own.rd {A : Option Addr} {cap : Nat} (h : Own w sz (.slice A n cap) n xs S) : Rd w A xs := by
  obtain ⟨A', c', e, _, _, hr, _⟩ := h.form
  injection e with e1
  rw [e1]
  exact hr
theorem Own.addr {A : Option Addr} {cap : Nat} (h : Own w sz (.slice A n cap) n xs S) (h0 : 0 < n) : ∃ ad, A = some ad ∧ ad.block ∈ S := by
  rcases h.2 with ⟨_, _, hn, _⟩ | ⟨g, off, c, e, rfl, _⟩
  · omega
  · injection e with e
    exact ⟨_, e, by simp⟩
theorem Own.ofSeg {e : TypeId} (h : Seg w e sz v n xs S) : Own w sz v n xs S := by
  refine ⟨h.1, ?_⟩
  rcases h.2 with h2 | ⟨g, off, cap, cs, hv, rfl, hb, hs, hn, hm, hx⟩
  · exact .inl ⟨_, h2⟩
  · refine .inr ⟨g, off, cap, hv, rfl, hn, hm, hb.lt, hb.there hs, fun j u hu => ?_⟩
    have hj : j < n * sz := by rw [← h.1]; exact (List.getElem?_eq_some_iff.1 hu).1
    rw [hb.cell, hx j hj, hu]
/-- A whole new block. -/
theorem Own.ofBlk {g : Nat} {t : TypeId} {cs : Array Value} {cap : Nat} (hb : Blk w g t cs) (hc : cs.size = cap * sz) (hm : cap ≤ maxLen) : Own w sz (.slice (some ⟨g, 0, none⟩) cap cap) cap cs.toList [g] :=
  Own.ofSeg (Seg.ofBlk hb hc hm)
/-- A slice of no element with room. -/
theorem Own.ofRoom {g : Nat} {t : TypeId} {cs : Array Value} {cap : Nat} (hb : Blk w g t cs) (hc : cs.size = cap * sz) (hm : cap ≤ maxLen) : Own w sz (.slice (some ⟨g, 0, none⟩) 0 cap) 0 [] [g] :=
  ⟨by simp, .inr ⟨g, 0, cap, rfl, rfl, Nat.zero_le _, hm, hb.lt, hb.there (by omega), fun j u hu => by simp at hu⟩⟩
end

section
variable {P : Program} (w : World)
theorem run_append_ownc (t ty e : TypeId) (i : TypeInfo) (z : Value) (size bytes : Nat) (ht : P.underlying t = some (.slice e)) (hi : P.info? e = some i) (hz : i.zero = some z)
    (hsize : i.size = size) (hby : i.bytes = bytes) (hzs : z.cells.size = size)
    (v : Value) (n : Nat) (xs : List Value) (S : List Nat) (hseg : Own w size v n xs S)
    (A : Option Addr) (m c : Nat) (news : List Value) (hl : news.length = m * size) (hnews : Rd w A news) (hA : A = none → m = 0) (h1 : ∀ u ∈ news, u.oneCell' = true)
    (h63 : n + m ≤ maxLen) (hbytes : (n + m) * bytes ≤ 140737488355328) :
    ∃ v' w' S', (Builtin.append_ #[t, t] ty #[v, .slice A m c]).run P w = .ok v' w' ∧ Own w' size v' (n + m) (xs ++ news) S' ∧ Keeps S w w' ∧ (S' = S ∨ S' = [w.heap.size]) := by
  subst hsize
  subst hby
  have hsmall : n + m ≤ 9223372036854775807 := by simp only [maxLen] at h63; omega
  have hlen : (xs ++ news).length = (n + m) * i.size := by rw [List.length_append, hseg.1, hl, Nat.add_mul]
  by_cases hm : m = 0
  · subst hm
    have hn : news = [] := List.eq_nil_of_length_eq_zero (by simpa using hl)
    subst hn
    refine ⟨v, w, S, ?_, by simpa using hseg, Keeps.refl _ _, .inl rfl⟩
    rcases hseg.2 with ⟨B, rfl, rfl, _⟩ | ⟨g, off, cap, rfl, _, hnc, _⟩
    · cases B <;> cases A <;> simp [Builtin.append_, run_underlying ht, sizeOf, typeInfo, hi, Builtin.lenOf, Builtin.firstCells, loadCells, loadCellsFrom, storeCells]
    · cases A <;> simp [Builtin.append_, run_underlying ht, sizeOf, typeInfo, hi, Builtin.lenOf, Builtin.firstCells, loadCells, loadCellsFrom, storeCells, hnc]
  · obtain ⟨a, rfl⟩ : ∃ a, A = some a := by
      cases A with
      | none => exact absurd (hA rfl) hm
      | some a => exact ⟨a, rfl⟩
    have hnews' : ∀ j u, news[j]? = some u → w.cell? (a.add j) = some u := fun j u hu => by
      obtain ⟨ad, e, h⟩ := hnews j u hu
      injection e with e; subst e; exact h
    have grown : ∀ (old : Nat), old < n + m →
        Own (w.drew.alloc (.cells (xs.toArray ++ news.toArray ++ Builtin.zeroCells z.cells (grownCap w (n + m) old e - (n + m))) e)) i.size
          (.slice (some ⟨w.heap.size, 0, none⟩) (n + m) (grownCap w (n + m) old e)) (n + m) (xs ++ news) [w.heap.size] := by
      intro old ho
      have hge := grownCap_ge w (n + m) old e
      have hcm : grownCap w (n + m) old e ≤ maxLen := grownCap_le_maxLen w (n + m) old e h63
      have hb := Blk.new w.drew e (xs.toArray ++ news.toArray ++ Builtin.zeroCells z.cells (grownCap w (n + m) old e - (n + m)))
      refine ⟨hlen, .inr ⟨w.heap.size, 0, _, rfl, rfl, hge, hcm, hb.lt, hb.there ?_, ?_⟩⟩
      · simp only [Array.size_append, List.size_toArray, size_zeroCells, hzs, hseg.1, hl, ← Nat.add_mul, Nat.zero_add]
        exact Nat.mul_le_mul_right _ (by omega)
      · intro j u hu
        have hj : j < (xs ++ news).length := (List.getElem?_eq_some_iff.1 hu).1
        refine (hb.cell _).trans ?_
        simp only [Nat.zero_add]
        rw [Array.getElem?_append_left (by simpa using hj)]
        simpa using hu
    rcases hseg.2 with ⟨B, rfl, rfl, rfl⟩ | ⟨g, off, cap, rfl, rfl, hnc, hcm, hgl, hth, hx⟩
    · have hx : xs = [] := List.eq_nil_of_length_eq_zero (by simpa using hseg.1)
      subst hx
      rcases B with _ | b
      rotate_left
      · have hr := run_append_grow (P := P) w t ty e i z ht hi hz b 0 0 [] (by simp) (by simp) a m c news hl hnews' (by omega) (by omega) (growslice_fits (by omega) hbytes)
        exact ⟨_, _, _, hr, grown 0 (by omega), ((Keeps.refl [] w).drew).alloc _, .inr rfl⟩
      have hr := run_append_nil (P := P) w t ty e i z ht hi hz a m c news hl hnews' (by omega) (by omega) (by have hb := hbytes; simp only [Nat.zero_add] at hb; omega)
      have hgr := grown 0 (by omega)
      simp only [Nat.zero_add, List.nil_append, Array.empty_append] at hgr ⊢
      exact ⟨_, _, _, hr, hgr, ((Keeps.refl [] w).drew).alloc _, .inr rfl⟩
    · by_cases hroom : n + m ≤ cap
      · have hk : (n + m) * i.size ≤ cap * i.size := Nat.mul_le_mul_right _ hroom
        have hnl : n * i.size + news.length = (n + m) * i.size := by rw [hl, Nat.add_mul]
        have hf := run_firstCells_some (P := P) w i.size m a m c news hl hnews'
        have hst := run_storeCells_cells (P := P) g (off + n * i.size) news 0 w (fun j hj => by have := (hth (n * i.size + j) (by omega)).1; rw [← Nat.add_assoc] at this; simpa using this)
          (fun j hj => by have := (hth (n * i.size + j) (by omega)).2; rw [← Nat.add_assoc] at this; simpa using this) h1
        simp only [Nat.add_zero] at hst
        have hr : (Builtin.append_ #[t, t] ty #[.slice (some ⟨g, off, none⟩) n cap, .slice (some a) m c]).run P w =
            .ok (.slice (some ⟨g, off, none⟩) (n + m) cap) (w.setCells g (off + n * i.size) news) := by
          simp [Builtin.append_, run_underlying ht, sizeOf, typeInfo, hi, Builtin.lenOf, hroom, hf, Addr.add_lit, hst]
        have hkp : Keeps [g] w (w.setCells g (off + n * i.size) news) := Keeps.setCells (.inl (by simp)) _ _ (Keeps.refl _ _)
        refine ⟨_, _, [g], hr, ⟨hlen, .inr ⟨g, off, cap, rfl, rfl, hroom, hcm, Nat.lt_of_lt_of_le hgl hkp.size, World.there_setCells hth _ _ _, ?_⟩⟩, hkp, .inl rfl⟩
        intro j u hu
        by_cases hjn : j < n * i.size
        · rw [List.getElem?_append_left (by rw [hseg.1]; exact hjn)] at hu
          exact World.rangeAt_setCells_apart hx g (off + n * i.size) news (.inr (.inl (by rw [hseg.1]; exact Nat.le_refl _))) j u hu
        · rw [List.getElem?_append_right (by rw [hseg.1]; omega), hseg.1] at hu
          have hs := World.rangeAt_setCells_same w g (off + n * i.size) news (fun q hq => by have := hth (n * i.size + q) (by omega); rw [← Nat.add_assoc] at this; exact this) (j - n * i.size) u hu
          rw [show off + n * i.size + (j - n * i.size) = off + j by omega] at hs
          exact hs
      · have holds : ∀ j u, xs[j]? = some u → w.cell? ((⟨g, off, none⟩ : Addr).add j) = some u := fun j u hu => by
          rw [Addr.add_lit]; exact hx j u hu
        have hr := run_append_grow (P := P) w t ty e i z ht hi hz ⟨g, off, none⟩ n cap xs hseg.1 holds a m c news hl hnews' (by omega) (by omega) (growslice_fits (by omega) hbytes)
        exact ⟨_, _, _, hr, grown cap (by omega), ((Keeps.refl [g] w).drew).alloc _, .inr rfl⟩

theorem wp_append_ownc {o : Oper} {a : Act} {K : Act → World → Prop} {Q : Exit → Act → World → Prop} (s x : Operand) (t : TypeId)
    (ho : o.op = .call { callee := .builtin .append, args := #[s, x], argTypes := #[t, t] })
    (e : TypeId) (z : Value) (size bytes : Nat) (ht : P.underlying t = some (.slice e)) (hi : (P.info? e).map (fun i => (i.zero, i.size, i.bytes)) = some (some z, size, bytes)) (hzs : z.cells.size = size)
    (v : Value) (n : Nat) (xs : List Value) (S : List Nat) (hs : a.eval s = v) (hseg : Own w size v n xs S)
    (A : Option Addr) (m c : Nat) (news : List Value) (hx : a.eval x = .slice A m c) (hl : news.length = m * size) (hnews : Rd w A news) (hA : A = none → m = 0) (h1 : ∀ u ∈ news, u.oneCell' = true)
    (h63 : n + m ≤ maxLen) (hbytes : (n + m) * bytes ≤ 140737488355328)
    (h : ∀ v' w' S', Own w' size v' (n + m) (xs ++ news) S' → Keeps S w w' → (S' = S ∨ S' = [w.heap.size]) → K (a.put o.dst v') w') : o.wp P a w K Q := by
  obtain ⟨i, hi, hz, hsize, hby⟩ := info_parts hi
  obtain ⟨v', w', S', hr, h2, h3, h4⟩ := run_append_ownc (P := P) w t o.type e i z size bytes ht hi hz hsize hby hzs v n xs S hseg A m c news hl hnews hA h1 h63 hbytes
  unfold Oper.wp execOp
  simp only [ho, resolve, invoke, builtin, Sem.run_bind, Sem.run_pure, Result.andThen_ok, List.map_toArray, List.map_cons, List.map_nil, hs, hx, hr]
  exact h v' w' S' h2 h3 h4

theorem wpList_append_ownc {ops : Array Oper} {rest : List Oper} {o : Oper} {a : Act} {Q : Exit → Act → World → Prop} (hgd : o.guard = none) (s x : Operand) (t : TypeId)
    (ho : o.op = .call { callee := .builtin .append, args := #[s, x], argTypes := #[t, t] })
    (e : TypeId) (z : Value) (size bytes : Nat) (ht : P.underlying t = some (.slice e)) (hi : (P.info? e).map (fun i => (i.zero, i.size, i.bytes)) = some (some z, size, bytes)) (hzs : z.cells.size = size)
    (v : Value) (n : Nat) (xs : List Value) (S : List Nat) (hs : a.eval s = v) (hseg : Own w size v n xs S)
    (A : Option Addr) (m c : Nat) (news : List Value) (hx : a.eval x = .slice A m c) (hl : news.length = m * size) (hnews : Rd w A news) (hA : A = none → m = 0) (h1 : ∀ u ∈ news, u.oneCell' = true)
    (h63 : n + m ≤ maxLen) (hbytes : (n + m) * bytes ≤ 140737488355328)
    (h : ∀ v' w' S', Own w' size v' (n + m) (xs ++ news) S' → Keeps S w w' → (S' = S ∨ S' = [w.heap.size]) → wpList P ops Q rest (a.put o.dst v') w') : wpList P ops Q (o :: rest) a w :=
  wpList_plain hgd fun _ hK => wp_append_ownc w s x t ho e z size bytes ht hi hzs v n xs S hs hseg A m c news hx hl hnews hA h1 h63 hbytes fun v' w' S' h2 h3 h4 => hK _ _ (h v' w' S' h2 h3 h4)
end
end Go.Proofs.Ytkdkmnemmenikaa
