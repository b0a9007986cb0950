/- Words for memory, of no program: which blocks a step leaves alone; a block known whole; a slice that reads as a list; a segment of a block of the call's own, and append to it. -/
import Derived.WalkKit
import Derived.Deep.Draws
import Derived.Deep.AppendLies
import Derived.Maps.AppendAt
namespace Go.Proofs.Ytkdkmnemmenikaa
open Go.RowKit

/-- A byte. -/
def bv (b : Nat) : Value := .int .u8 (b : Int)

/-- w' is w but for the blocks of S, and new blocks. -/
structure Keeps (S : List Nat) (w w' : World) : Prop where
  os : w'.os = w.os
  tape : w'.tape = w.tape
  output : w'.output = w.output
  size : w.heap.size ≤ w'.heap.size
  block : ∀ k, k < w.heap.size → k ∉ S → w'.heap[k]? = w.heap[k]?

theorem Keeps.refl (S : List Nat) (w : World) : Keeps S w w := ⟨rfl, rfl, rfl, Nat.le_refl _, fun _ _ _ => rfl⟩
theorem Keeps.trans {S : List Nat} {a b c : World} (h : Keeps S a b) (k : Keeps S b c) : Keeps S a c :=
  ⟨k.os.trans h.os, k.tape.trans h.tape, k.output.trans h.output, Nat.le_trans h.size k.size,
    fun i hi hs => (k.block i (Nat.lt_of_lt_of_le hi h.size) hs).trans (h.block i hi hs)⟩
/-- S' may name blocks that are new since a. -/
theorem Keeps.trans' {S S' : List Nat} {a b c : World} (h : Keeps S a b) (k : Keeps S' b c) (hs : ∀ x ∈ S', x ∈ S ∨ a.heap.size ≤ x) : Keeps S a c :=
  ⟨k.os.trans h.os, k.tape.trans h.tape, k.output.trans h.output, Nat.le_trans h.size k.size,
    fun i hi hn => (k.block i (Nat.lt_of_lt_of_le hi h.size) (fun hm => by rcases hs i hm with h1 | h1; exact hn h1; omega)).trans (h.block i hi hn)⟩
theorem Keeps.mono {S S' : List Nat} {a b : World} (h : Keeps S a b) (hs : ∀ x ∈ S, x ∈ S' ∨ a.heap.size ≤ x) : Keeps S' a b :=
  ⟨h.os, h.tape, h.output, h.size, fun i hi hn => h.block i hi (fun hm => by rcases hs i hm with h1 | h1; exact hn h1; omega)⟩
theorem Keeps.below {w w' : World} (h : Keeps [] w w') : Below w.heap.size w w' := ⟨h.os, h.tape, h.output, h.size, fun k hk => h.block k hk (by simp)⟩
theorem Keeps.of_below {S : List Nat} {w w' : World} (h : Below w.heap.size w w') : Keeps S w w' := ⟨h.os, h.tape, h.output, h.size, fun k hk _ => h.block k hk⟩
theorem Keeps.drew {S : List Nat} {a w : World} (h : Keeps S a w) : Keeps S a w.drew := ⟨h.os, h.tape, h.output, h.size, h.block⟩
theorem Keeps.drewN {S : List Nat} {a w : World} (h : Keeps S a w) (n : Nat) : Keeps S a (w.drewN n) := ⟨h.os, h.tape, h.output, h.size, h.block⟩
theorem Keeps.alloc {S : List Nat} {a w : World} (h : Keeps S a w) (o : Obj) : Keeps S a (w.alloc o) :=
  h.trans ⟨rfl, rfl, rfl, by simp, fun k hk _ => Below.heap_alloc _ _ _ hk⟩
theorem Keeps.setCell {S : List Nat} {a w : World} (h : Keeps S a w) {p : Addr} (u : Value) (hp : p.block ∈ S ∨ a.heap.size ≤ p.block) : Keeps S a (w.setCell p u) :=
  ⟨h.os, h.tape, h.output, by simpa using h.size, fun k hk hn => (Below.heap_setCell w p u k (fun e => by subst e; rcases hp with h1 | h1; exact hn h1; omega)).trans (h.block k hk hn)⟩
theorem Keeps.grown {S : List Nat} {a w w' : World} {row : Option Nat} (h : Keeps S a w) (hg : w.grownBy w' row) (hr : ∀ k, row = some k → k ∈ S ∨ a.heap.size ≤ k) : Keeps S a w' :=
  ⟨hg.os.trans h.os, hg.tape.trans h.tape, hg.output.trans h.output, Nat.le_trans h.size hg.size,
    fun k hk hn => (hg.block k (Nat.lt_of_lt_of_le hk h.size) (fun e => by rcases hr k e.symm with h1 | h1; exact hn h1; omega)).trans (h.block k hk hn)⟩
theorem Keeps.cell {S : List Nat} {w w' : World} (h : Keeps S w w') {p : Addr} (hp : p.block < w.heap.size) (hn : p.block ∉ S) : w'.cell? p = w.cell? p :=
  World.cell?_of_block (w := w) (h.block p.block hp hn)

/-- Block g is just the cells cs of type t, none frozen. -/
def Blk (w : World) (g : Nat) (t : TypeId) (cs : Array Value) : Prop := w.heap[g]? = some (.cells cs t (0, 0))
section
variable {w w' : World} {g : Nat} {t : TypeId} {cs : Array Value}
theorem Blk.lt (h : Blk w g t cs) : g < w.heap.size := (Array.getElem?_eq_some_iff.1 h).1
theorem Blk.cell (h : Blk w g t cs) (i : Nat) : w.cell? ⟨g, i, none⟩ = cs[i]? := cell_of_row w g i cs t (0, 0) h
theorem Blk.frozen (h : Blk w g t cs) (i : Nat) : w.frozen? ⟨g, i, none⟩ = false := by unfold Blk at h; simp [World.frozen?, h]
theorem Blk.new (w : World) (t : TypeId) (cs : Array Value) : Blk (w.alloc (.cells cs t)) w.heap.size t cs := heap_alloc_new w _
theorem Blk.newAt (w : World) (t : TypeId) (cs : Array Value) (n : Nat) (h : w.heap.size = n) : Blk (w.alloc (.cells cs t)) n t cs := h ▸ heap_alloc_new w _
theorem Blk.drew (h : Blk w g t cs) : Blk w.drew g t cs := h
theorem Blk.drewN (h : Blk w g t cs) (n : Nat) : Blk (w.drewN n) g t cs := h
theorem Blk.alloc (h : Blk w g t cs) (o : Obj) : Blk (w.alloc o) g t cs := (Below.heap_alloc w o g h.lt).trans h
theorem Blk.set (h : Blk w g t cs) (i : Nat) (u : Value) : Blk (w.setCell ⟨g, i, none⟩ u) g t (cs.setIfInBounds i u) := by
  unfold Blk at h ⊢
  simp [World.setCell, Array.getElem?_modify, h]
theorem Blk.far (h : Blk w g t cs) {p : Addr} (hp : g ≠ p.block) (u : Value) : Blk (w.setCell p u) g t cs := (Below.heap_setCell w p u g hp).trans h
theorem Blk.keeps {S : List Nat} (h : Blk w g t cs) (k : Keeps S w w') (hg : g ∉ S) : Blk w' g t cs := (k.block g h.lt hg).trans h
theorem Blk.below (h : Blk w g t cs) (k : Below w.heap.size w w') : Blk w' g t cs := (k.block g h.lt).trans h
theorem Blk.ne {g' : Nat} {t' : TypeId} {cs' : Array Value} (h : Blk w g t cs) (h' : Blk w g' t' cs') (hne : t ≠ t') : g ≠ g' := by
  rintro rfl
  unfold Blk at h h'
  rw [h] at h'
  simp only [Option.some.injEq, Obj.cells.injEq] at h'
  exact hne h'.2.1
end

/-- The cells from address A on read xs. -/
def Rd (w : World) (A : Option Addr) (xs : List Value) : Prop := ∀ j v, xs[j]? = some v → ∃ ad, A = some ad ∧ w.cell? (ad.add j) = some v
section
variable {w w' : World} {A : Option Addr} {xs : List Value}
theorem Rd.nil (w : World) (A : Option Addr) : Rd w A [] := fun j v h => by simp at h
theorem Rd.at_ (h : Rd w A xs) {j : Nat} (hj : j < xs.length) : ∃ ad, A = some ad ∧ w.cell? (ad.add j) = some xs[j] := h j _ (List.getElem?_eq_getElem hj)
theorem add_block (a : Addr) (n : Nat) : (a.add n).block = a.block := by unfold Addr.add; split <;> rfl
theorem add_add (a : Addr) (i j : Nat) : (a.add i).add j = a.add (i + j) := by
  unfold Addr.add
  by_cases hi : i = 0 <;> by_cases hj : j = 0 <;> simp [hi, hj, Nat.add_assoc]
theorem Rd.below (h : Rd w A xs) (k : Below w.heap.size w w') : Rd w' A xs := fun j v hv => by
  obtain ⟨ad, rfl, hc⟩ := h j v hv
  exact ⟨ad, rfl, (k.cell (World.block_lt_of_cell? w _ hc)).trans hc⟩
theorem Rd.keeps {S : List Nat} (h : Rd w A xs) (k : Keeps S w w') (hA : ∀ ad, A = some ad → ad.block ∉ S) : Rd w' A xs := fun j v hv => by
  obtain ⟨ad, rfl, hc⟩ := h j v hv
  exact ⟨ad, rfl, (k.cell (World.block_lt_of_cell? w _ hc) (by rw [add_block]; exact hA ad rfl)).trans hc⟩
theorem Rd.drew (h : Rd w A xs) : Rd w.drew A xs := h
theorem Rd.drewN (h : Rd w A xs) (n : Nat) : Rd (w.drewN n) A xs := h
theorem Rd.alloc (h : Rd w A xs) (o : Obj) : Rd (w.alloc o) A xs := fun j v hv => by
  obtain ⟨ad, rfl, hc⟩ := h j v hv
  exact ⟨ad, rfl, (World.cell?_alloc_lt w o _ (World.block_lt_of_cell? w _ hc)).trans hc⟩
theorem Rd.drop (h : Rd w A xs) (k : Nat) {c : Nat} (hc : xs.drop k ≠ [] → c ≠ k) : Rd w (if c = k then A else A.map (·.add k)) (xs.drop k) := fun j v hv => by
  have hne : xs.drop k ≠ [] := fun e => by rw [e] at hv; simp at hv
  rw [if_neg (hc hne)]
  rw [List.getElem?_drop] at hv
  obtain ⟨ad, rfl, hcell⟩ := h _ v hv
  exact ⟨ad.add k, rfl, by rw [add_add]; exact hcell⟩
theorem Rd.dropAt (h : Rd w A xs) (k : Nat) : Rd w (A.map (·.add k)) (xs.drop k) := fun j v hv => by
  rw [List.getElem?_drop] at hv
  obtain ⟨ad, rfl, hcell⟩ := h _ v hv
  exact ⟨ad.add k, rfl, by rw [add_add]; exact hcell⟩
theorem Rd.take (h : Rd w A xs) (n : Nat) : Rd w A (xs.take n) := fun j v hv => by
  rw [List.getElem?_take] at hv
  split at hv
  · exact h j v hv
  · cases hv
theorem Rd.of_blk {g : Nat} {t : TypeId} {cs : Array Value} (h : Blk w g t cs) (off : Nat) : Rd w (some ⟨g, off, none⟩) (cs.toList.drop off) := fun j v hv =>
  ⟨_, rfl, by rw [Addr.add_lit, h.cell]; simpa [List.getElem?_drop] using hv⟩
theorem Rd.of_blk0 {g : Nat} {t : TypeId} {cs : Array Value} (h : Blk w g t cs) : Rd w (some ⟨g, 0, none⟩) cs.toList := by simpa using Rd.of_blk h 0
end

theorem Rd.newF (w : World) (t : TypeId) (cs : Array Value) (fr : Nat × Nat) (n : Nat) (h : w.heap.size = n) : Rd (w.alloc (.cells cs t fr)) (some ⟨n, 0, none⟩) cs.toList := fun j v hv => by
  subst h
  exact ⟨_, rfl, by rw [Addr.add_lit, cell_of_row _ _ _ cs t fr (heap_alloc_new w _)]; simpa using hv⟩

/-- v is a slice of n elements of type e, sz cells each, that reads xs, in a block of S of which nothing else is known to hang; append may write behind it. -/
def Seg (w : World) (e : TypeId) (sz : Nat) (v : Value) (n : Nat) (xs : List Value) (S : List Nat) : Prop :=
  xs.length = n * sz ∧ ((v = .slice none 0 0 ∧ n = 0 ∧ S = []) ∨
   ∃ g off cap cs, v = .slice (some ⟨g, off, none⟩) n cap ∧ S = [g] ∧ Blk w g e cs ∧ off + cap * sz ≤ cs.size ∧ n ≤ cap ∧ cap ≤ maxLen ∧ ∀ j, j < n * sz → cs[off + j]? = xs[j]?)

section
variable {w w' : World} {e : TypeId} {sz n : Nat} {v : Value} {xs : List Value} {S : List Nat}
theorem Seg.nil (w : World) (e : TypeId) (sz : Nat) : Seg w e sz (.slice none 0 0) 0 [] [] := ⟨by simp, .inl ⟨rfl, rfl, rfl⟩⟩
theorem Seg.lt (h : Seg w e sz v n xs S) : ∀ x ∈ S, x < w.heap.size := by
  rcases h.2 with ⟨_, _, rfl⟩ | ⟨g, off, cap, cs, _, rfl, hb, _⟩
  · simp
  · intro x hx; simp at hx; subst hx; exact hb.lt
theorem Seg.keeps {S' : List Nat} (h : Seg w e sz v n xs S) (k : Keeps S' w w') (hd : ∀ x ∈ S, x ∉ S') : Seg w' e sz v n xs S := by
  refine ⟨h.1, ?_⟩
  rcases h.2 with h2 | ⟨g, off, cap, cs, hv, rfl, hb, rest⟩
  · exact .inl h2
  · exact .inr ⟨g, off, cap, cs, hv, rfl, hb.keeps k (hd g (by simp)), rest⟩
theorem Seg.below (h : Seg w e sz v n xs S) (k : Below w.heap.size w w') : Seg w' e sz v n xs S := h.keeps (Keeps.of_below (S := []) k) (by simp)
theorem Seg.drew (h : Seg w e sz v n xs S) : Seg w.drew e sz v n xs S := h
theorem Seg.drewN (h : Seg w e sz v n xs S) (m : Nat) : Seg (w.drewN m) e sz v n xs S := h
theorem Seg.alloc (h : Seg w e sz v n xs S) (o : Obj) : Seg (w.alloc o) e sz v n xs S := h.keeps ((Keeps.refl [] w).alloc o) (by simp)
/-- As a value: its address, its cells. -/
theorem Seg.form (h : Seg w e sz v n xs S) : ∃ A cap, v = .slice A n cap ∧ n ≤ cap ∧ cap ≤ maxLen ∧ Rd w A xs ∧ (∀ ad, A = some ad → ad.block ∈ S) ∧ (A = none → n = 0 ∧ cap = 0) := by
  rcases h.2 with ⟨hv, rfl, rfl⟩ | ⟨g, off, cap, cs, hv, rfl, hb, hs, hn, hm, hx⟩
  · have : xs = [] := List.eq_nil_of_length_eq_zero (by simpa using h.1)
    subst this
    exact ⟨none, 0, hv, Nat.le_refl _, by simp [maxLen], Rd.nil _ _, by simp, by simp⟩
  · refine ⟨_, cap, hv, hn, hm, fun j u hu => ⟨_, rfl, ?_⟩, by simp, by simp⟩
    have hj : j < n * sz := by rw [← h.1]; exact (List.getElem?_eq_some_iff.1 hu).1
    rw [Addr.add_lit, hb.cell, hx j hj, hu]
theorem Seg.ofBlk {g : Nat} {cs : Array Value} {cap : Nat} (hb : Blk w g e cs) (hc : cs.size = cap * sz) (hm : cap ≤ maxLen) : Seg w e sz (.slice (some ⟨g, 0, none⟩) cap cap) cap cs.toList [g] :=
  ⟨by simpa using hc, .inr ⟨g, 0, cap, cs, rfl, rfl, hb, by omega, Nat.le_refl _, hm, fun j _ => by simp⟩⟩
end

section
variable {P : Program} (w : World)
theorem run_append_seg_room (t ty e : TypeId) (i : TypeInfo) (ht : P.underlying t = some (.slice e)) (hi : P.info? e = some i)
    (g off n cap : Nat) (cur : Array Value) (hg : Blk w g e cur)
    (a : Addr) (m c : Nat) (news : List Value) (hl : news.length = m * i.size) (hnews : ∀ j u, news[j]? = some u → w.cell? (a.add j) = some u) (h1 : ∀ u ∈ news, u.oneCell' = true)
    (hroom : n + m ≤ cap) (hfit : off + n * i.size + news.length ≤ cur.size) :
    (Builtin.append_ #[t, t] ty #[.slice (some ⟨g, off, none⟩) n cap, .slice (some a) m c]).run P w =
      .ok (.slice (some ⟨g, off, none⟩) (n + m) cap) (w.setRow g (cur.toList.take (off + n * i.size) ++ news ++ cur.toList.drop (off + n * i.size + news.length)).toArray) := by
  have hf := run_firstCells_some (P := P) w i.size m a m c news hl hnews
  have hst := run_storeCells_at P g (off + n * i.size) e news 0 cur w hg (by simpa using hfit) h1
  simp only [Nat.add_zero] at hst
  simp [Builtin.append_, run_underlying ht, sizeOf, typeInfo, hi, Builtin.lenOf, hroom, hf, Addr.add_lit, hst]

/-- append to a segment: what comes of it; which block it lies in. -/
theorem run_append_seg (t ty e : TypeId) (i : TypeInfo) (z : Value) (size bytes : Nat) (ht : P.underlying t = some (.slice e)) (hi : P.info? e = some i) (hz : i.zero = some z)
    (hsize : i.size = size) (hby : i.bytes = bytes) (hzs : z.cells.size = size)
    (v : Value) (n : Nat) (xs : List Value) (S : List Nat) (hseg : Seg w e size v n xs S)
    (A : Option Addr) (m c : Nat) (news : List Value) (hl : news.length = m * size) (hnews : Rd w A news) (hA : A = none → m = 0) (h1 : ∀ u ∈ news, u.oneCell' = true)
    (h63 : n + m ≤ maxLen) (hbytes : (n + m) * bytes ≤ 140737488355328) :
    ∃ v' w' S', (Builtin.append_ #[t, t] ty #[v, .slice A m c]).run P w = .ok v' w' ∧ Seg w' e size v' (n + m) (xs ++ news) S' ∧ Keeps S w w' ∧ (S' = S ∨ S' = [w.heap.size]) := by
  subst hsize
  subst hby
  have hsmall : n + m ≤ 9223372036854775807 := by simp only [maxLen] at h63; omega
  have hlen : (xs ++ news).length = (n + m) * i.size := by rw [List.length_append, hseg.1, hl, Nat.add_mul]
  by_cases hm : m = 0
  · subst hm
    have hn : news = [] := List.eq_nil_of_length_eq_zero (by simpa using hl)
    subst hn
    refine ⟨v, w, S, ?_, by simpa using hseg, Keeps.refl _ _, .inl rfl⟩
    rcases hseg.2 with ⟨rfl, rfl, _⟩ | ⟨g, off, cap, cs, rfl, _, _, _, hnc, _⟩
    · cases A <;> simp [Builtin.append_, run_underlying ht, sizeOf, typeInfo, hi, Builtin.lenOf, Builtin.firstCells, loadCells, loadCellsFrom]
    · cases A <;> simp [Builtin.append_, run_underlying ht, sizeOf, typeInfo, hi, Builtin.lenOf, Builtin.firstCells, loadCells, loadCellsFrom, storeCells, hnc]
  · obtain ⟨a, rfl⟩ : ∃ a, A = some a := by
      cases A with
      | none => exact absurd (hA rfl) hm
      | some a => exact ⟨a, rfl⟩
    have hnews' : ∀ j u, news[j]? = some u → w.cell? (a.add j) = some u := fun j u hu => by
      obtain ⟨ad, e, h⟩ := hnews j u hu
      injection e with e; subst e; exact h
    have grown : ∀ (old : Nat), old < n + m →
        Seg (w.drew.alloc (.cells (xs.toArray ++ news.toArray ++ Builtin.zeroCells z.cells (grownCap w (n + m) old e - (n + m))) e)) e i.size
          (.slice (some ⟨w.heap.size, 0, none⟩) (n + m) (grownCap w (n + m) old e)) (n + m) (xs ++ news) [w.heap.size] := by
      intro old ho
      have hge := grownCap_ge w (n + m) old e
      have hcm : grownCap w (n + m) old e ≤ maxLen := grownCap_le_maxLen w (n + m) old e h63
      refine ⟨hlen, .inr ⟨w.heap.size, 0, _, _, rfl, rfl, Blk.new w.drew _ _, ?_, hge, hcm, ?_⟩⟩
      · simp only [Array.size_append, List.size_toArray, size_zeroCells, hzs, hseg.1, hl, ← Nat.add_mul, Nat.zero_add]
        exact Nat.mul_le_mul_right _ (by omega)
      · intro j hj
        rw [← hlen] at hj
        simp only [Nat.zero_add]
        rw [Array.getElem?_append_left (by simpa using hj)]
        simp
    rcases hseg.2 with ⟨rfl, rfl, rfl⟩ | ⟨g, off, cap, cur, rfl, rfl, hg, hfit, hnc, hcm, hx⟩
    · have hx : xs = [] := List.eq_nil_of_length_eq_zero (by simpa using hseg.1)
      subst hx
      have hr := run_append_nil (P := P) w t ty e i z ht hi hz a m c news hl hnews' (by omega) (by omega) (by have hb := hbytes; simp only [Nat.zero_add] at hb; omega)
      have hgr := grown 0 (by omega)
      simp only [Nat.zero_add, List.nil_append, Array.empty_append] at hgr ⊢
      exact ⟨_, _, _, hr, hgr, ((Keeps.refl [] w).drew).alloc _, .inr rfl⟩
    · by_cases hroom : n + m ≤ cap
      · have hk : (n + m) * i.size ≤ cap * i.size := Nat.mul_le_mul_right _ hroom
        have hnl : n * i.size + news.length = (n + m) * i.size := by rw [hl, Nat.add_mul]
        have hr := run_append_seg_room (P := P) w t ty e i ht hi g off n cap cur hg a m c news hl hnews' h1 hroom (by omega)
        refine ⟨_, _, [g], hr, ⟨hlen, .inr ⟨g, off, cap, _, rfl, rfl, setRow_heap w g cur _ e _ hg, ?_, hroom, hcm, ?_⟩⟩,
          ⟨rfl, rfl, rfl, by simp, fun k _ hn => setRow_other w g k _ (fun e => hn (by simp [e]))⟩, .inl rfl⟩
        · simp only [List.size_toArray, List.length_append, List.length_take, List.length_drop, Array.length_toList]
          omega
        · intro j hj
          have hlt : off + n * i.size ≤ cur.size := by omega
          simp only [List.getElem?_toArray]
          by_cases hjn : j < n * i.size
          · rw [List.append_assoc, List.getElem?_append_left (by simp; omega), List.getElem?_take, if_pos (by omega), List.getElem?_append_left (by rw [hseg.1]; exact hjn), ← hx j hjn]
            simp
          · rw [List.getElem?_append_left (by simp; omega), List.getElem?_append_right (by simp; omega), List.getElem?_append_right (by rw [hseg.1]; omega)]
            congr 1
            simp only [List.length_take, Array.length_toList, hseg.1]
            omega
      · have holds : ∀ j u, xs[j]? = some u → w.cell? ((⟨g, off, none⟩ : Addr).add j) = some u := fun j u hu => by
          have hj : j < n * i.size := by rw [← hseg.1]; exact (List.getElem?_eq_some_iff.1 hu).1
          rw [Addr.add_lit, hg.cell, hx j hj, hu]
        have hr := run_append_grow (P := P) w t ty e i z ht hi hz ⟨g, off, none⟩ n cap xs hseg.1 holds a m c news hl hnews' (by omega) (by omega) (growslice_fits (by omega) hbytes)
        exact ⟨_, _, _, hr, grown cap (by omega), ((Keeps.refl [g] w).drew).alloc _, .inr rfl⟩

theorem wp_append_seg {o : Oper} {a : Act} {K : Act → World → Prop} {Q : Exit → Act → World → Prop} (s x : Operand) (t : TypeId)
    (ho : o.op = .call { callee := .builtin .append, args := #[s, x], argTypes := #[t, t] })
    (e : TypeId) (z : Value) (size bytes : Nat) (ht : P.underlying t = some (.slice e)) (hi : (P.info? e).map (fun i => (i.zero, i.size, i.bytes)) = some (some z, size, bytes)) (hzs : z.cells.size = size)
    (v : Value) (n : Nat) (xs : List Value) (S : List Nat) (hs : a.eval s = v) (hseg : Seg w e size v n xs S)
    (A : Option Addr) (m c : Nat) (news : List Value) (hx : a.eval x = .slice A m c) (hl : news.length = m * size) (hnews : Rd w A news) (hA : A = none → m = 0) (h1 : ∀ u ∈ news, u.oneCell' = true)
    (h63 : n + m ≤ maxLen) (hbytes : (n + m) * bytes ≤ 140737488355328)
    (h : ∀ v' w' S', Seg w' e size v' (n + m) (xs ++ news) S' → Keeps S w w' → (S' = S ∨ S' = [w.heap.size]) → K (a.put o.dst v') w') : o.wp P a w K Q := by
  obtain ⟨i, hi, hz, hsize, hby⟩ := info_parts hi
  obtain ⟨v', w', S', hr, h2, h3, h4⟩ := run_append_seg (P := P) w t o.type e i z size bytes ht hi hz hsize hby hzs v n xs S hseg A m c news hl hnews hA h1 h63 hbytes
  unfold Oper.wp execOp
  simp only [ho, resolve, invoke, builtin, Sem.run_bind, Sem.run_pure, Result.andThen_ok, List.map_toArray, List.map_cons, List.map_nil, hs, hx, hr]
  exact h v' w' S' h2 h3 h4

theorem wpList_append_seg {ops : Array Oper} {rest : List Oper} {o : Oper} {a : Act} {Q : Exit → Act → World → Prop} (hgd : o.guard = none) (s x : Operand) (t : TypeId)
    (ho : o.op = .call { callee := .builtin .append, args := #[s, x], argTypes := #[t, t] })
    (e : TypeId) (z : Value) (size bytes : Nat) (ht : P.underlying t = some (.slice e)) (hi : (P.info? e).map (fun i => (i.zero, i.size, i.bytes)) = some (some z, size, bytes)) (hzs : z.cells.size = size)
    (v : Value) (n : Nat) (xs : List Value) (S : List Nat) (hs : a.eval s = v) (hseg : Seg w e size v n xs S)
    (A : Option Addr) (m c : Nat) (news : List Value) (hx : a.eval x = .slice A m c) (hl : news.length = m * size) (hnews : Rd w A news) (hA : A = none → m = 0) (h1 : ∀ u ∈ news, u.oneCell' = true)
    (h63 : n + m ≤ maxLen) (hbytes : (n + m) * bytes ≤ 140737488355328)
    (h : ∀ v' w' S', Seg w' e size v' (n + m) (xs ++ news) S' → Keeps S w w' → (S' = S ∨ S' = [w.heap.size]) → wpList P ops Q rest (a.put o.dst v') w') : wpList P ops Q (o :: rest) a w :=
  wpList_plain hgd fun _ hK => wp_append_seg w s x t ho e z size bytes ht hi hzs v n xs S hs hseg A m c news hx hl hnews hA h1 h63 hbytes fun v' w' S' h2 h3 h4 => hK _ _ (h v' w' S' h2 h3 h4)
end
end Go.Proofs.Ytkdkmnemmenikaa
