/- Joined: Mem, MemA, MemO, Ty, TyC, Sm, TyS, TyB, TyD, TyM, TyF, TyG, TyQ, TyO, TyFz, TyV, ShaP, ShaA, ShaB, ShaC, LaysJ, Join, ShaD, TyP, Str, TextP, Still, ParseP, LaysI, XorP, XorA, App, Zero, Parse, CmpP, Cmp. -/
import Derived.WalkKit
import Derived.Deep.Draws
import Derived.Deep.AppendLies
import Derived.Maps.AppendAt
import Derived.Deep.MidRow
import Derived.Laws.Rows
import Derived.Tactics
import Derived.Laws.IdiomCopy
import Derived.Orders
import Derived.StillTail
import Derived.Test.YtkdkmnemmenikaaProg
import Derived.ChangeKeysEq
import Derived.Laws.StructEq
import Derived.Laws.BitsAllLaws
import Derived.Lib.SliceRun
import Derived.KernelRfl
import Derived.Laws.IdiomStrings
import Derived.WalkLawsBesides
import Derived.Deep.QuietTactic
import Derived.BigQuiet
import Derived.StillTailTactics
import Derived.Lib.Hide
import Derived.Outline
import Derived.IntWalk
import Derived.Deep.RegionHeld3
import Derived.Shelf.Bytes.SlJoin
import Derived.Laws.BytesArg
import Derived.Lib.Bytealg
import Derived.Laws.ResultCell
import Derived.Shelf.Small.Strs
import Derived.Shelf.Strings.Search1
import Derived.Lib.OthersKept
import Derived.Lib.BytesEntry
/- Words for memory, of no program: which blocks a step leaves alone; a block known whole; a slice that reads as a list; a segment of a block of the call's own, and append to it. -/
namespace Go.Proofs.Ytkdkmnemmenikaa
open Go.RowKit

/-- A byte. -/
def bv (b : Nat) : Value := .int .u8 (b : Int)

/-- w' is w but for the blocks of S, and new blocks. -/
structure Keeps (S : List Nat) (w w' : World) : Prop where
  os : w'.os = w.os
  tape : w'.tape = w.tape
  output : w'.output = w.output
  size : w.heap.size ≤ w'.heap.size
  block : ∀ k, k < w.heap.size → k ∉ S → w'.heap[k]? = w.heap[k]?

theorem Keeps.refl (S : List Nat) (w : World) : Keeps S w w := ⟨rfl, rfl, rfl, Nat.le_refl _, fun _ _ _ => rfl⟩
theorem Keeps.trans {S : List Nat} {a b c : World} (h : Keeps S a b) (k : Keeps S b c) : Keeps S a c :=
  ⟨k.os.trans h.os, k.tape.trans h.tape, k.output.trans h.output, Nat.le_trans h.size k.size,
    fun i hi hs => (k.block i (Nat.lt_of_lt_of_le hi h.size) hs).trans (h.block i hi hs)⟩
/-- S' may name blocks that are new since a. -/
theorem Keeps.trans' {S S' : List Nat} {a b c : World} (h : Keeps S a b) (k : Keeps S' b c) (hs : ∀ x ∈ S', x ∈ S ∨ a.heap.size ≤ x) : Keeps S a c :=
  ⟨k.os.trans h.os, k.tape.trans h.tape, k.output.trans h.output, Nat.le_trans h.size k.size,
    fun i hi hn => (k.block i (Nat.lt_of_lt_of_le hi h.size) (fun hm => by rcases hs i hm with h1 | h1; exact hn h1; omega)).trans (h.block i hi hn)⟩
theorem Keeps.mono {S S' : List Nat} {a b : World} (h : Keeps S a b) (hs : ∀ x ∈ S, x ∈ S' ∨ a.heap.size ≤ x) : Keeps S' a b :=
  ⟨h.os, h.tape, h.output, h.size, fun i hi hn => h.block i hi (fun hm => by rcases hs i hm with h1 | h1; exact hn h1; omega)⟩
theorem Keeps.below {w w' : World} (h : Keeps [] w w') : Below w.heap.size w w' := ⟨h.os, h.tape, h.output, h.size, fun k hk => h.block k hk (by simp)⟩
theorem Keeps.of_below {S : List Nat} {w w' : World} (h : Below w.heap.size w w') : Keeps S w w' := ⟨h.os, h.tape, h.output, h.size, fun k hk _ => h.block k hk⟩
theorem Keeps.drew {S : List Nat} {a w : World} (h : Keeps S a w) : Keeps S a w.drew := ⟨h.os, h.tape, h.output, h.size, h.block⟩
theorem Keeps.drewN {S : List Nat} {a w : World} (h : Keeps S a w) (n : Nat) : Keeps S a (w.drewN n) := ⟨h.os, h.tape, h.output, h.size, h.block⟩
theorem Keeps.alloc {S : List Nat} {a w : World} (h : Keeps S a w) (o : Obj) : Keeps S a (w.alloc o) :=
  h.trans ⟨rfl, rfl, rfl, by simp, fun k hk _ => Below.heap_alloc _ _ _ hk⟩
theorem Keeps.setCell {S : List Nat} {a w : World} (h : Keeps S a w) {p : Addr} (u : Value) (hp : p.block ∈ S ∨ a.heap.size ≤ p.block) : Keeps S a (w.setCell p u) :=
  ⟨h.os, h.tape, h.output, by simpa using h.size, fun k hk hn => (Below.heap_setCell w p u k (fun e => by subst e; rcases hp with h1 | h1; exact hn h1; omega)).trans (h.block k hk hn)⟩
theorem Keeps.cell {S : List Nat} {w w' : World} (h : Keeps S w w') {p : Addr} (hp : p.block < w.heap.size) (hn : p.block ∉ S) : w'.cell? p = w.cell? p :=
  World.cell?_of_block (w := w) (h.block p.block hp hn)

/-- Block g is just the cells cs of type t, none frozen. -/
def Blk (w : World) (g : Nat) (t : TypeId) (cs : Array Value) : Prop := w.heap[g]? = some (.cells cs t (0, 0))
section
variable {w w' : World} {g : Nat} {t : TypeId} {cs : Array Value}
theorem Blk.lt (h : Blk w g t cs) : g < w.heap.size := (Array.getElem?_eq_some_iff.1 h).1
theorem Blk.cell (h : Blk w g t cs) (i : Nat) : w.cell? ⟨g, i, none⟩ = cs[i]? := cell_of_row w g i cs t (0, 0) h
theorem Blk.frozen (h : Blk w g t cs) (i : Nat) : w.frozen? ⟨g, i, none⟩ = false := by unfold Blk at h; simp [World.frozen?, h]
theorem Blk.new (w : World) (t : TypeId) (cs : Array Value) : Blk (w.alloc (.cells cs t)) w.heap.size t cs := heap_alloc_new w _
theorem Blk.newAt (w : World) (t : TypeId) (cs : Array Value) (n : Nat) (h : w.heap.size = n) : Blk (w.alloc (.cells cs t)) n t cs := h ▸ heap_alloc_new w _
theorem Blk.drew (h : Blk w g t cs) : Blk w.drew g t cs := h
theorem Blk.drewN (h : Blk w g t cs) (n : Nat) : Blk (w.drewN n) g t cs := h
theorem Blk.alloc (h : Blk w g t cs) (o : Obj) : Blk (w.alloc o) g t cs := (Below.heap_alloc w o g h.lt).trans h
theorem Blk.set (h : Blk w g t cs) (i : Nat) (u : Value) : Blk (w.setCell ⟨g, i, none⟩ u) g t (cs.setIfInBounds i u) := by
  unfold Blk at h ⊢
  simp [World.setCell, Array.getElem?_modify, h]
theorem Blk.far (h : Blk w g t cs) {p : Addr} (hp : g ≠ p.block) (u : Value) : Blk (w.setCell p u) g t cs := (Below.heap_setCell w p u g hp).trans h
theorem Blk.keeps {S : List Nat} (h : Blk w g t cs) (k : Keeps S w w') (hg : g ∉ S) : Blk w' g t cs := (k.block g h.lt hg).trans h
theorem Blk.below (h : Blk w g t cs) (k : Below w.heap.size w w') : Blk w' g t cs := (k.block g h.lt).trans h
end

/-- The cells from address A on read xs. -/
def Rd (w : World) (A : Option Addr) (xs : List Value) : Prop := ∀ j v, xs[j]? = some v → ∃ ad, A = some ad ∧ w.cell? (ad.add j) = some v
section
variable {w w' : World} {A : Option Addr} {xs : List Value}
theorem Rd.nil (w : World) (A : Option Addr) : Rd w A [] := fun j v h => by simp at h
theorem Rd.at_ (h : Rd w A xs) {j : Nat} (hj : j < xs.length) : ∃ ad, A = some ad ∧ w.cell? (ad.add j) = some xs[j] := h j _ (List.getElem?_eq_getElem hj)
theorem add_block (a : Addr) (n : Nat) : (a.add n).block = a.block := by unfold Addr.add; split <;> rfl
theorem add_add (a : Addr) (i j : Nat) : (a.add i).add j = a.add (i + j) := by
  unfold Addr.add
  by_cases hi : i = 0 <;> by_cases hj : j = 0 <;> simp [hi, hj, Nat.add_assoc]
theorem Rd.below (h : Rd w A xs) (k : Below w.heap.size w w') : Rd w' A xs := fun j v hv => by
  obtain ⟨ad, rfl, hc⟩ := h j v hv
  exact ⟨ad, rfl, (k.cell (World.block_lt_of_cell? w _ hc)).trans hc⟩
theorem Rd.keeps {S : List Nat} (h : Rd w A xs) (k : Keeps S w w') (hA : ∀ ad, A = some ad → ad.block ∉ S) : Rd w' A xs := fun j v hv => by
  obtain ⟨ad, rfl, hc⟩ := h j v hv
  exact ⟨ad, rfl, (k.cell (World.block_lt_of_cell? w _ hc) (by rw [add_block]; exact hA ad rfl)).trans hc⟩
theorem Rd.alloc (h : Rd w A xs) (o : Obj) : Rd (w.alloc o) A xs := fun j v hv => by
  obtain ⟨ad, rfl, hc⟩ := h j v hv
  exact ⟨ad, rfl, (World.cell?_alloc_lt w o _ (World.block_lt_of_cell? w _ hc)).trans hc⟩
theorem Rd.drop (h : Rd w A xs) (k : Nat) {c : Nat} (hc : xs.drop k ≠ [] → c ≠ k) : Rd w (if c = k then A else A.map (·.add k)) (xs.drop k) := fun j v hv => by
  have hne : xs.drop k ≠ [] := fun e => by rw [e] at hv; simp at hv
  rw [if_neg (hc hne)]
  rw [List.getElem?_drop] at hv
  obtain ⟨ad, rfl, hcell⟩ := h _ v hv
  exact ⟨ad.add k, rfl, by rw [add_add]; exact hcell⟩
theorem Rd.take (h : Rd w A xs) (n : Nat) : Rd w A (xs.take n) := fun j v hv => by
  rw [List.getElem?_take] at hv
  split at hv
  · exact h j v hv
  · cases hv
theorem Rd.of_blk {g : Nat} {t : TypeId} {cs : Array Value} (h : Blk w g t cs) (off : Nat) : Rd w (some ⟨g, off, none⟩) (cs.toList.drop off) := fun j v hv =>
  ⟨_, rfl, by rw [Addr.add_lit, h.cell]; simpa [List.getElem?_drop] using hv⟩
theorem Rd.of_blk0 {g : Nat} {t : TypeId} {cs : Array Value} (h : Blk w g t cs) : Rd w (some ⟨g, 0, none⟩) cs.toList := by simpa using Rd.of_blk h 0
end

theorem Rd.newF (w : World) (t : TypeId) (cs : Array Value) (fr : Nat × Nat) (n : Nat) (h : w.heap.size = n) : Rd (w.alloc (.cells cs t fr)) (some ⟨n, 0, none⟩) cs.toList := fun j v hv => by
  subst h
  exact ⟨_, rfl, by rw [Addr.add_lit, cell_of_row _ _ _ cs t fr (heap_alloc_new w _)]; simpa using hv⟩

/-- v is a slice of n elements of type e, sz cells each, that reads xs, in a block of S of which nothing else is known to hang; append may write behind it. -/
def Seg (w : World) (e : TypeId) (sz : Nat) (v : Value) (n : Nat) (xs : List Value) (S : List Nat) : Prop :=
  xs.length = n * sz ∧ ((v = .slice none 0 0 ∧ n = 0 ∧ S = []) ∨
   ∃ g off cap cs, v = .slice (some ⟨g, off, none⟩) n cap ∧ S = [g] ∧ Blk w g e cs ∧ off + cap * sz ≤ cs.size ∧ n ≤ cap ∧ cap ≤ maxLen ∧ ∀ j, j < n * sz → cs[off + j]? = xs[j]?)

section
variable {w w' : World} {e : TypeId} {sz n : Nat} {v : Value} {xs : List Value} {S : List Nat}
theorem Seg.ofBlk {g : Nat} {cs : Array Value} {cap : Nat} (hb : Blk w g e cs) (hc : cs.size = cap * sz) (hm : cap ≤ maxLen) : Seg w e sz (.slice (some ⟨g, 0, none⟩) cap cap) cap cs.toList [g] :=
  ⟨by simpa using hc, .inr ⟨g, 0, cap, cs, rfl, rfl, hb, by omega, Nat.le_refl _, hm, fun j _ => by simp⟩⟩
end

section
variable {P : Program} (w : World)
end
end Go.Proofs.Ytkdkmnemmenikaa

/- Words for memory: whole arrays and structs loaded from and stored into a block that is known whole; a function's result that lies in such a block. -/
namespace Go.Proofs.Ytkdkmnemmenikaa
open Go.RowKit

/-- cs with vs written over it from o on. -/
def splice (cs : Array Value) : Nat → List Value → Array Value
  | _, [] => cs
  | o, v :: vs => splice (cs.setIfInBounds o v) (o + 1) vs
theorem splice_size (vs : List Value) : ∀ (cs : Array Value) (o : Nat), (splice cs o vs).size = cs.size := by
  induction vs with
  | nil => intro cs o; rfl
  | cons v vs ih => intro cs o; rw [splice, ih]; simp
theorem splice_get (vs : List Value) : ∀ (cs : Array Value) (o j : Nat), o + vs.length ≤ cs.size → (splice cs o vs)[j]? = if o ≤ j ∧ j < o + vs.length then vs[j - o]? else cs[j]? := by
  induction vs with
  | nil => intro cs o j _; rw [splice, if_neg (by simp)]
  | cons v vs ih =>
    intro cs o j h
    simp only [List.length_cons] at h ⊢
    rw [splice, ih _ _ _ (by simp; omega)]
    by_cases h1 : o + 1 ≤ j ∧ j < o + 1 + vs.length
    · rw [if_pos h1, if_pos (by omega), show j - o = (j - (o + 1)) + 1 by omega, List.getElem?_cons_succ]
    · rw [if_neg h1]
      by_cases h2 : j = o
      · subst h2; rw [if_pos (by omega), Nat.sub_self, Array.getElem?_setIfInBounds_self, if_pos (by omega)]; rfl
      · rw [if_neg (by omega), Array.getElem?_setIfInBounds_ne (by omega)]
theorem splice_all (cs : Array Value) (vs : List Value) (h : vs.length = cs.size) : splice cs 0 vs = vs.toArray := by
  apply Array.ext_getElem?
  intro j
  rw [splice_get _ _ _ _ (by omega)]
  by_cases hj : j < vs.length
  · rw [if_pos (by omega), Nat.sub_zero]; simp
  · rw [if_neg (by omega), Array.getElem?_eq_none (by omega), Array.getElem?_eq_none (by simp; omega)]

theorem Blk.setCells {g : Nat} {t : TypeId} (vs : List Value) : ∀ {w : World} {cs : Array Value} (o : Nat), Blk w g t cs → Blk (w.setCells g o vs) g t (splice cs o vs) := by
  induction vs with
  | nil => intro w cs o h; exact h
  | cons v vs ih => intro w cs o h; exact ih (o + 1) (h.set o v)
theorem Keeps.setCells {S : List Nat} {a : World} {g : Nat} (hg : g ∈ S ∨ a.heap.size ≤ g) (vs : List Value) : ∀ {w : World} (o : Nat), Keeps S a w → Keeps S a (w.setCells g o vs) := by
  induction vs with
  | nil => intro w o h; exact h
  | cons v vs ih => intro w o h; exact ih (o + 1) (h.setCell (p := ⟨g, o, none⟩) v hg)
theorem Blk.there {w : World} {g : Nat} {t : TypeId} {cs : Array Value} (h : Blk w g t cs) {o n : Nat} (hn : o + n ≤ cs.size) : w.there g o n := fun j hj => by
  refine ⟨?_, h.frozen _⟩
  rw [h.cell]
  simp
  omega

theorem below_drewN {B : Nat} {a w : World} (h : Below B a w) (n : Nat) : Below B a (w.drewN n) := ⟨h.os, h.tape, h.output, h.size, h.block⟩

section
variable {P : Program} {w : World}
/-- A whole value is stored over a whole block. -/
theorem wp_store_blk {o : Oper} {a : Act} {K : Act → World → Prop} {Q : Exit → Act → World → Prop} (ty : TypeId) (x y : Operand) (ho : o.op = .store ty x y)
    (g : Nat) (t : TypeId) (cs cells : Array Value) (hx : a.eval x = .pointer (some ⟨g, 0, none⟩)) (hy : a.eval y = .agg cells)
    (hB : Blk w g t cs) (hs : cells.size = cs.size) (hi : (P.info? ty).map (·.size) = some cells.size) (h1 : cells.all (·.oneCell') = true)
    (h : ∀ w', Blk w' g t cells → Keeps [g] w w' → K (a.put o.dst undef) w') : o.wp P a w K Q := by
  refine wp_store_mid ty x y ho g 0 cells hx hy (hB.there (by omega)) hi h1 (h _ ?_ (Keeps.setCells (.inl (by simp)) _ _ (Keeps.refl _ _)))
  have := hB.setCells cells.toList 0
  rwa [splice_all _ _ (by simpa using hs)] at this
theorem wpList_store_blk {ops : Array Oper} {rest : List Oper} {o : Oper} {a : Act} {Q : Exit → Act → World → Prop} (hgd : o.guard = none) (ty : TypeId) (x y : Operand) (ho : o.op = .store ty x y)
    (g : Nat) (t : TypeId) (cs cells : Array Value) (hx : a.eval x = .pointer (some ⟨g, 0, none⟩)) (hy : a.eval y = .agg cells)
    (hB : Blk w g t cs) (hs : cells.size = cs.size) (hi : (P.info? ty).map (·.size) = some cells.size) (h1 : cells.all (·.oneCell') = true)
    (h : ∀ w', Blk w' g t cells → Keeps [g] w w' → wpList P ops Q rest (a.put o.dst undef) w') : wpList P ops Q (o :: rest) a w :=
  wpList_plain hgd fun _ hK => wp_store_blk ty x y ho g t cs cells hx hy hB hs hi h1 fun w' h2 h3 => hK _ _ (h w' h2 h3)
/-- A whole block is loaded. -/
theorem wpList_load_blk {ops : Array Oper} {rest : List Oper} {o : Oper} {a : Act} {Q : Exit → Act → World → Prop} (hgd : o.guard = none) (ty : TypeId) (x : Operand) (ho : o.op = .load ty x)
    (g : Nat) (hx : a.eval x = .pointer (some ⟨g, 0, none⟩)) (t : TypeId) (cs : Array Value) (d : TypeDesc) (hB : Blk w g t cs)
    (hu : P.underlying ty = some d) (hd : (match d with | .struct _ | .array _ _ => true | _ => false) = true) (hi : (P.info? ty).map (·.size) = some cs.size)
    (h : wpList P ops Q rest (a.put o.dst (.agg cs)) w) : wpList P ops Q (o :: rest) a w :=
  wpList_load_row hgd ty x ho g hx t cs (0, 0) d hB hu hd hi h
/-- The result lies in a block. -/
theorem post_blk {fn : Func} {R : Ending → World → Prop} {a : Act} {p : Tmp} {ty : TypeId} (hr : fn.results = #[.cell p ty]) (hd0 : a.defers = []) (g : Nat) (t : TypeId) (cs : Array Value) (d : TypeDesc)
    (hp : a.tmps.getD p undef = .pointer (some ⟨g, 0, none⟩)) (hB : Blk w g t cs)
    (hu : P.underlying ty = some d) (hd : (match d with | .struct _ | .array _ _ => true | _ => false) = true) (hi : (P.info? ty).map (·.size) = some cs.size)
    (h : R (.returned (.agg cs)) w) : bodyPost P fn R .ret a w :=
  bodyPost_ret (results_cell_row hr _ _ g t cs (0, 0) d hp hB hu hd hi) hd0 h
end
end Go.Proofs.Ytkdkmnemmenikaa

/- Words for memory: a slice of the call's own, told by its cells (whatever block it lies in); append to it. -/
namespace Go.Proofs.Ytkdkmnemmenikaa
open Go.RowKit

/-- v is a slice of n elements, sz cells each, that reads xs, in a block of S of which nothing else is known to hang; append may write behind it. -/
def Own (w : World) (sz : Nat) (v : Value) (n : Nat) (xs : List Value) (S : List Nat) : Prop :=
  xs.length = n * sz ∧ ((∃ A, v = .slice A 0 0 ∧ n = 0 ∧ S = []) ∨
   ∃ g off cap, v = .slice (some ⟨g, off, none⟩) n cap ∧ S = [g] ∧ n ≤ cap ∧ cap ≤ maxLen ∧ g < w.heap.size ∧ w.there g off (cap * sz) ∧ w.rangeAt g off xs)

section
variable {w w' : World} {sz n : Nat} {v : Value} {xs : List Value} {S : List Nat}
theorem Own.nil (w : World) (sz : Nat) : Own w sz (.slice none 0 0) 0 [] [] := ⟨by simp, .inl ⟨_, rfl, rfl, rfl⟩⟩
theorem Own.lt (h : Own w sz v n xs S) : ∀ x ∈ S, x < w.heap.size := by
  rcases h.2 with ⟨_, _, _, rfl⟩ | ⟨g, off, cap, _, rfl, _, _, hl, _⟩
  · simp
  · intro x hx; simp at hx; subst hx; exact hl
theorem frozen_of_block {p : Addr} (h : w'.heap[p.block]? = w.heap[p.block]?) : w'.frozen? p = w.frozen? p := by
  unfold World.frozen?; rw [h]
theorem Keeps.frozen {S : List Nat} (h : Keeps S w w') {p : Addr} (hp : p.block < w.heap.size) (hn : p.block ∉ S) : w'.frozen? p = w.frozen? p :=
  frozen_of_block (h.block p.block hp hn)
theorem Own.keeps {S' : List Nat} (h : Own w sz v n xs S) (k : Keeps S' w w') (hd : ∀ x ∈ S, x ∉ S') : Own w' sz v n xs S := by
  refine ⟨h.1, ?_⟩
  rcases h.2 with h2 | ⟨g, off, cap, hv, rfl, hn, hm, hl, ht, hr⟩
  · exact .inl h2
  · have hg : g ∉ S' := hd g (by simp)
    refine .inr ⟨g, off, cap, hv, rfl, hn, hm, Nat.lt_of_lt_of_le hl k.size, fun j hj => ?_, fun j u hu => ?_⟩
    · rw [k.cell (p := ⟨g, off + j, none⟩) hl hg, k.frozen (p := ⟨g, off + j, none⟩) hl hg]; exact ht j hj
    · rw [k.cell (p := ⟨g, off + j, none⟩) hl hg]; exact hr j u hu
theorem Own.below (h : Own w sz v n xs S) (k : Below w.heap.size w w') : Own w' sz v n xs S := h.keeps (Keeps.of_below (S := []) k) (by simp)
theorem Own.drew (h : Own w sz v n xs S) : Own w.drew sz v n xs S := h
theorem Own.alloc (h : Own w sz v n xs S) (o : Obj) : Own (w.alloc o) sz v n xs S := h.keeps ((Keeps.refl [] w).alloc o) (by simp)
/-- As a value: its address, its cells. -/
theorem Own.form (h : Own w sz v n xs S) : ∃ A cap, v = .slice A n cap ∧ n ≤ cap ∧ cap ≤ maxLen ∧ Rd w A xs ∧ (A = none → n = 0 ∧ cap = 0) := by
  rcases h.2 with ⟨A, hv, rfl, rfl⟩ | ⟨g, off, cap, hv, rfl, hn, hm, hl, ht, hr⟩
  · have : xs = [] := List.eq_nil_of_length_eq_zero (by simpa using h.1)
    subst this
    exact ⟨A, 0, hv, Nat.le_refl _, by simp [maxLen], Rd.nil _ _, by simp⟩
  · exact ⟨_, cap, hv, hn, hm, fun j u hu => ⟨_, rfl, by rw [Addr.add_lit]; exact hr j u hu⟩, by simp⟩
theorem Own.rd {A : Option Addr} {cap : Nat} (h : Own w sz (.slice A n cap) n xs S) : Rd w A xs := by
  obtain ⟨A', c', e, _, _, hr, _⟩ := h.form
  injection e with e1
  rw [e1]
  exact hr
theorem Own.addr {A : Option Addr} {cap : Nat} (h : Own w sz (.slice A n cap) n xs S) (h0 : 0 < n) : ∃ ad, A = some ad ∧ ad.block ∈ S := by
  rcases h.2 with ⟨_, _, hn, _⟩ | ⟨g, off, c, e, rfl, _⟩
  · omega
  · injection e with e
    exact ⟨_, e, by simp⟩
/-- A slice of no element with room. -/
theorem Own.ofRoom {g : Nat} {t : TypeId} {cs : Array Value} {cap : Nat} (hb : Blk w g t cs) (hc : cs.size = cap * sz) (hm : cap ≤ maxLen) : Own w sz (.slice (some ⟨g, 0, none⟩) 0 cap) 0 [] [g] :=
  ⟨by simp, .inr ⟨g, 0, cap, rfl, rfl, Nat.zero_le _, hm, hb.lt, hb.there (by omega), fun j u hu => by simp at hu⟩⟩
end

section
variable {P : Program} (w : World)
theorem run_append_ownc (t ty e : TypeId) (i : TypeInfo) (z : Value) (size bytes : Nat) (ht : P.underlying t = some (.slice e)) (hi : P.info? e = some i) (hz : i.zero = some z)
    (hsize : i.size = size) (hby : i.bytes = bytes) (hzs : z.cells.size = size)
    (v : Value) (n : Nat) (xs : List Value) (S : List Nat) (hseg : Own w size v n xs S)
    (A : Option Addr) (m c : Nat) (news : List Value) (hl : news.length = m * size) (hnews : Rd w A news) (hA : A = none → m = 0) (h1 : ∀ u ∈ news, u.oneCell' = true)
    (h63 : n + m ≤ maxLen) (hbytes : (n + m) * bytes ≤ 140737488355328) :
    ∃ v' w' S', (Builtin.append_ #[t, t] ty #[v, .slice A m c]).run P w = .ok v' w' ∧ Own w' size v' (n + m) (xs ++ news) S' ∧ Keeps S w w' ∧ (S' = S ∨ S' = [w.heap.size]) := by
  subst hsize
  subst hby
  have hsmall : n + m ≤ 9223372036854775807 := by simp only [maxLen] at h63; omega
  have hlen : (xs ++ news).length = (n + m) * i.size := by rw [List.length_append, hseg.1, hl, Nat.add_mul]
  by_cases hm : m = 0
  · subst hm
    have hn : news = [] := List.eq_nil_of_length_eq_zero (by simpa using hl)
    subst hn
    refine ⟨v, w, S, ?_, by simpa using hseg, Keeps.refl _ _, .inl rfl⟩
    rcases hseg.2 with ⟨B, rfl, rfl, _⟩ | ⟨g, off, cap, rfl, _, hnc, _⟩
    · cases B <;> cases A <;> simp [Builtin.append_, run_underlying ht, sizeOf, typeInfo, hi, Builtin.lenOf, Builtin.firstCells, loadCells, loadCellsFrom, storeCells]
    · cases A <;> simp [Builtin.append_, run_underlying ht, sizeOf, typeInfo, hi, Builtin.lenOf, Builtin.firstCells, loadCells, loadCellsFrom, storeCells, hnc]
  · obtain ⟨a, rfl⟩ : ∃ a, A = some a := by
      cases A with
      | none => exact absurd (hA rfl) hm
      | some a => exact ⟨a, rfl⟩
    have hnews' : ∀ j u, news[j]? = some u → w.cell? (a.add j) = some u := fun j u hu => by
      obtain ⟨ad, e, h⟩ := hnews j u hu
      injection e with e; subst e; exact h
    have grown : ∀ (old : Nat), old < n + m →
        Own (w.drew.alloc (.cells (xs.toArray ++ news.toArray ++ Builtin.zeroCells z.cells (grownCap w (n + m) old e - (n + m))) e)) i.size
          (.slice (some ⟨w.heap.size, 0, none⟩) (n + m) (grownCap w (n + m) old e)) (n + m) (xs ++ news) [w.heap.size] := by
      intro old ho
      have hge := grownCap_ge w (n + m) old e
      have hcm : grownCap w (n + m) old e ≤ maxLen := grownCap_le_maxLen w (n + m) old e h63
      have hb := Blk.new w.drew e (xs.toArray ++ news.toArray ++ Builtin.zeroCells z.cells (grownCap w (n + m) old e - (n + m)))
      refine ⟨hlen, .inr ⟨w.heap.size, 0, _, rfl, rfl, hge, hcm, hb.lt, hb.there ?_, ?_⟩⟩
      · simp only [Array.size_append, List.size_toArray, size_zeroCells, hzs, hseg.1, hl, ← Nat.add_mul, Nat.zero_add]
        exact Nat.mul_le_mul_right _ (by omega)
      · intro j u hu
        have hj : j < (xs ++ news).length := (List.getElem?_eq_some_iff.1 hu).1
        refine (hb.cell _).trans ?_
        simp only [Nat.zero_add]
        rw [Array.getElem?_append_left (by simpa using hj)]
        simpa using hu
    rcases hseg.2 with ⟨B, rfl, rfl, rfl⟩ | ⟨g, off, cap, rfl, rfl, hnc, hcm, hgl, hth, hx⟩
    · have hx : xs = [] := List.eq_nil_of_length_eq_zero (by simpa using hseg.1)
      subst hx
      rcases B with _ | b
      rotate_left
      · have hr := run_append_grow (P := P) w t ty e i z ht hi hz b 0 0 [] (by simp) (by simp) a m c news hl hnews' (by omega) (by omega) (growslice_fits (by omega) hbytes)
        exact ⟨_, _, _, hr, grown 0 (by omega), ((Keeps.refl [] w).drew).alloc _, .inr rfl⟩
      have hr := run_append_nil (P := P) w t ty e i z ht hi hz a m c news hl hnews' (by omega) (by omega) (by have hb := hbytes; simp only [Nat.zero_add] at hb; omega)
      have hgr := grown 0 (by omega)
      simp only [Nat.zero_add, List.nil_append, Array.empty_append] at hgr ⊢
      exact ⟨_, _, _, hr, hgr, ((Keeps.refl [] w).drew).alloc _, .inr rfl⟩
    · by_cases hroom : n + m ≤ cap
      · have hk : (n + m) * i.size ≤ cap * i.size := Nat.mul_le_mul_right _ hroom
        have hnl : n * i.size + news.length = (n + m) * i.size := by rw [hl, Nat.add_mul]
        have hf := run_firstCells_some (P := P) w i.size m a m c news hl hnews'
        have hst := run_storeCells_cells (P := P) g (off + n * i.size) news 0 w (fun j hj => by have := (hth (n * i.size + j) (by omega)).1; rw [← Nat.add_assoc] at this; simpa using this)
          (fun j hj => by have := (hth (n * i.size + j) (by omega)).2; rw [← Nat.add_assoc] at this; simpa using this) h1
        simp only [Nat.add_zero] at hst
        have hr : (Builtin.append_ #[t, t] ty #[.slice (some ⟨g, off, none⟩) n cap, .slice (some a) m c]).run P w =
            .ok (.slice (some ⟨g, off, none⟩) (n + m) cap) (w.setCells g (off + n * i.size) news) := by
          simp [Builtin.append_, run_underlying ht, sizeOf, typeInfo, hi, Builtin.lenOf, hroom, hf, Addr.add_lit, hst]
        have hkp : Keeps [g] w (w.setCells g (off + n * i.size) news) := Keeps.setCells (.inl (by simp)) _ _ (Keeps.refl _ _)
        refine ⟨_, _, [g], hr, ⟨hlen, .inr ⟨g, off, cap, rfl, rfl, hroom, hcm, Nat.lt_of_lt_of_le hgl hkp.size, World.there_setCells hth _ _ _, ?_⟩⟩, hkp, .inl rfl⟩
        intro j u hu
        by_cases hjn : j < n * i.size
        · rw [List.getElem?_append_left (by rw [hseg.1]; exact hjn)] at hu
          exact World.rangeAt_setCells_apart hx g (off + n * i.size) news (.inr (.inl (by rw [hseg.1]; exact Nat.le_refl _))) j u hu
        · rw [List.getElem?_append_right (by rw [hseg.1]; omega), hseg.1] at hu
          have hs := World.rangeAt_setCells_same w g (off + n * i.size) news (fun q hq => by have := hth (n * i.size + q) (by omega); rw [← Nat.add_assoc] at this; exact this) (j - n * i.size) u hu
          rw [show off + n * i.size + (j - n * i.size) = off + j by omega] at hs
          exact hs
      · have holds : ∀ j u, xs[j]? = some u → w.cell? ((⟨g, off, none⟩ : Addr).add j) = some u := fun j u hu => by
          rw [Addr.add_lit]; exact hx j u hu
        have hr := run_append_grow (P := P) w t ty e i z ht hi hz ⟨g, off, none⟩ n cap xs hseg.1 holds a m c news hl hnews' (by omega) (by omega) (growslice_fits (by omega) hbytes)
        exact ⟨_, _, _, hr, grown cap (by omega), ((Keeps.refl [g] w).drew).alloc _, .inr rfl⟩

theorem wp_append_ownc {o : Oper} {a : Act} {K : Act → World → Prop} {Q : Exit → Act → World → Prop} (s x : Operand) (t : TypeId)
    (ho : o.op = .call { callee := .builtin .append, args := #[s, x], argTypes := #[t, t] })
    (e : TypeId) (z : Value) (size bytes : Nat) (ht : P.underlying t = some (.slice e)) (hi : (P.info? e).map (fun i => (i.zero, i.size, i.bytes)) = some (some z, size, bytes)) (hzs : z.cells.size = size)
    (v : Value) (n : Nat) (xs : List Value) (S : List Nat) (hs : a.eval s = v) (hseg : Own w size v n xs S)
    (A : Option Addr) (m c : Nat) (news : List Value) (hx : a.eval x = .slice A m c) (hl : news.length = m * size) (hnews : Rd w A news) (hA : A = none → m = 0) (h1 : ∀ u ∈ news, u.oneCell' = true)
    (h63 : n + m ≤ maxLen) (hbytes : (n + m) * bytes ≤ 140737488355328)
    (h : ∀ v' w' S', Own w' size v' (n + m) (xs ++ news) S' → Keeps S w w' → (S' = S ∨ S' = [w.heap.size]) → K (a.put o.dst v') w') : o.wp P a w K Q := by
  obtain ⟨i, hi, hz, hsize, hby⟩ := info_parts hi
  obtain ⟨v', w', S', hr, h2, h3, h4⟩ := run_append_ownc (P := P) w t o.type e i z size bytes ht hi hz hsize hby hzs v n xs S hseg A m c news hl hnews hA h1 h63 hbytes
  unfold Oper.wp execOp
  simp only [ho, resolve, invoke, builtin, Sem.run_bind, Sem.run_pure, Result.andThen_ok, List.map_toArray, List.map_cons, List.map_nil, hs, hx, hr]
  exact h v' w' S' h2 h3 h4

theorem wpList_append_ownc {ops : Array Oper} {rest : List Oper} {o : Oper} {a : Act} {Q : Exit → Act → World → Prop} (hgd : o.guard = none) (s x : Operand) (t : TypeId)
    (ho : o.op = .call { callee := .builtin .append, args := #[s, x], argTypes := #[t, t] })
    (e : TypeId) (z : Value) (size bytes : Nat) (ht : P.underlying t = some (.slice e)) (hi : (P.info? e).map (fun i => (i.zero, i.size, i.bytes)) = some (some z, size, bytes)) (hzs : z.cells.size = size)
    (v : Value) (n : Nat) (xs : List Value) (S : List Nat) (hs : a.eval s = v) (hseg : Own w size v n xs S)
    (A : Option Addr) (m c : Nat) (news : List Value) (hx : a.eval x = .slice A m c) (hl : news.length = m * size) (hnews : Rd w A news) (hA : A = none → m = 0) (h1 : ∀ u ∈ news, u.oneCell' = true)
    (h63 : n + m ≤ maxLen) (hbytes : (n + m) * bytes ≤ 140737488355328)
    (h : ∀ v' w' S', Own w' size v' (n + m) (xs ++ news) S' → Keeps S w w' → (S' = S ∨ S' = [w.heap.size]) → wpList P ops Q rest (a.put o.dst v') w') : wpList P ops Q (o :: rest) a w :=
  wpList_plain hgd fun _ hK => wp_append_ownc w s x t ho e z size bytes ht hi hzs v n xs S hs hseg A m c news hx hl hnews hA h1 h63 hbytes fun v' w' S' h2 h3 h4 => hK _ _ (h v' w' S' h2 h3 h4)
end
end Go.Proofs.Ytkdkmnemmenikaa

/- Regions by types: what each operation puts into its slot is told by a type (a property of world and value that stays true while the blocks on which it hangs stand); one derivation, in the order of the text, serves whatever order is drawn. -/
namespace Go.Proofs.Ytkdkmnemmenikaa
open Go.RowKit

/-- The blocks of S are of no type that stands in el. -/
def Apart (w : World) (S : List Nat) (el : TypeId → Bool) : Prop := ∀ b ∈ S, b < w.heap.size → ∃ cs t fr, w.heap[b]? = some (.cells cs t fr) ∧ el t = false

/-- A type: a property of world and value; el: the types of the blocks on which it hangs. -/
structure Ty where
  p : World → Value → Prop
  el : TypeId → Bool
  st : ∀ {w w' v S}, p w v → Keeps S w w' → Apart w S el → p w' v
theorem Ty.below (τ : Ty) {w w' : World} {v : Value} (h : τ.p w v) (hb : Below w.heap.size w w') : τ.p w' v :=
  τ.st h (Keeps.of_below (S := []) hb) (fun _ hb => by cases hb)

/-- Just this value. -/
def Ty.ex (v : Value) : Ty := ⟨fun _ u => u = v, fun _ => false, fun h _ _ => h⟩
/-- A new variable of w0: a block of its own. -/
def Ty.var (w0 : World) (t : TypeId) (z : Array Value) : Ty := ⟨fun w u => ∃ g, u = .pointer (some ⟨g, 0, none⟩) ∧ w0.heap.size ≤ g ∧ Blk w g t z, fun u => u == t, fun {w w' v S} h k hA => by
  obtain ⟨g, h1, h2, h3⟩ := h
  refine ⟨g, h1, h2, h3.keeps k (fun hg => ?_)⟩
  obtain ⟨cs, t', fr, h4, h5⟩ := hA g hg h3.lt
  unfold Blk at h3
  rw [h3] at h4
  simp only [Option.some.injEq, Obj.cells.injEq] at h4
  rw [← h4.2.1] at h5
  simp at h5⟩

abbrev Ctx := List (Nat × Ty)
def look : Ctx → Nat → Option Ty
  | [], _ => none
  | p :: Γ, s => bif Nat.beq p.1 s then some p.2 else look Γ s
theorem look_same (d : Nat) (V : Ty) (Γ : Ctx) : look ((d, V) :: Γ) d = some V := by simp [look]
theorem look_ne {d s : Nat} (V : Ty) (Γ : Ctx) (h : d ≠ s) : look ((d, V) :: Γ) s = look Γ s := by
  have : Nat.beq d s = false := by
    cases hb : Nat.beq d s with
    | false => rfl
    | true => exact absurd (Nat.eq_of_beq_eq_true hb) h
  simp [look, this]

/-- A frame of N slots: what the slots hold. -/
structure Fr (N : Nat) (Γ : Ctx) (a : Act) (w : World) : Prop where
  size : a.tmps.size = N
  defers : a.defers = []
  val : ∀ (s : Nat) (τ : Ty), look Γ s = some τ → ∃ v, a.tmps[s]? = some v ∧ τ.p w v
section
variable {N : Nat} {Γ : Ctx} {a : Act} {w w' : World}
theorem Fr.get (h : Fr N Γ a w) {s : Nat} {τ : Ty} (hs : look Γ s = some τ) : ∃ v, a.eval (.tmp s) = v ∧ τ.p w v := by
  obtain ⟨v, h1, h2⟩ := h.val s τ hs
  exact ⟨v, by simp [Act.eval, Array.getD_eq_getD_getElem?, h1], h2⟩
theorem Fr.getEx (h : Fr N Γ a w) {s : Nat} {v : Value} (hs : look Γ s = some (Ty.ex v)) : a.eval (.tmp s) = v := by
  obtain ⟨u, h1, h2⟩ := h.get hs
  exact h1.trans h2
theorem Fr.put (h : Fr N Γ a w) {d : Nat} (hd : d < N) {V : Ty} {v : Value} (hb : Below w.heap.size w w') (hv : V.p w' v) : Fr N ((d, V) :: Γ) (a.put (some d) v) w' := by
  refine ⟨by simp only [Act.put]; simpa using h.size, h.defers, fun s τ hs => ?_⟩
  by_cases hds : d = s
  · subst hds
    rw [look_same] at hs
    injection hs with hs
    subst hs
    refine ⟨v, ?_, hv⟩
    simp only [Act.put]
    rw [Array.getElem?_setIfInBounds_self, if_pos (by rw [h.size]; exact hd)]
  · rw [look_ne _ _ hds] at hs
    obtain ⟨u, h1, h2⟩ := h.val s τ hs
    refine ⟨u, ?_, τ.below h2 hb⟩
    simp only [Act.put]
    rw [Array.getElem?_setIfInBounds_ne hds]
    exact h1
/-- Fewer slots, or other words for them. -/
theorem Fr.nil (h : Fr N Γ a w) : Fr N [] a w := ⟨h.size, h.defers, fun s τ hs => by cases hs⟩
theorem Fr.as {Δ : Ctx} (h : Fr N Γ a w) (hr : Fr N Δ a w) {s : Nat} {τ σ : Ty} (hs : look Γ s = some τ) (hc : ∀ v, τ.p w v → σ.p w v) : Fr N ((s, σ) :: Δ) a w := by
  refine ⟨h.size, h.defers, fun s' τ' hs' => ?_⟩
  by_cases hss : s = s'
  · subst hss
    rw [look_same] at hs'
    injection hs' with hs'
    subst hs'
    obtain ⟨v, h1, h2⟩ := h.val s τ hs
    exact ⟨v, h1, hc v h2⟩
  · rw [look_ne _ _ hss] at hs'
    exact hr.val s' τ' hs'
theorem Fr.too {Δ : Ctx} (h : Fr N Γ a w) (hr : Fr N Δ a w) {s : Nat} {τ : Ty} (hs : look Γ s = some τ) : Fr N ((s, τ) :: Δ) a w := h.as hr hs (fun _ h => h)
/-- A slot's value under a letter. -/
theorem Fr.open (h : Fr N Γ a w) {s : Nat} {τ : Ty} (hs : look Γ s = some τ) : ∃ v, τ.p w v ∧ Fr N ((s, Ty.ex v) :: Γ) a w := by
  obtain ⟨v, h1, h2⟩ := h.val s τ hs
  refine ⟨v, h2, h.size, h.defers, fun s' τ' hs' => ?_⟩
  by_cases hss : s = s'
  · subst hss
    rw [look_same] at hs'
    injection hs' with hs'
    subst hs'
    exact ⟨v, h1, rfl⟩
  · rw [look_ne _ _ hss] at hs'
    exact h.val s' τ' hs'
/-- The world goes on, but for the blocks of S. -/
theorem Fr.keeps (h : Fr N Γ a w) {S : List Nat} (k : Keeps S w w') (hA : ∀ (s : Nat) (τ : Ty), look Γ s = some τ → Apart w S τ.el) : Fr N Γ a w' :=
  ⟨h.size, h.defers, fun s τ hs => let ⟨v, h1, h2⟩ := h.val s τ hs; ⟨v, h1, τ.st h2 k (hA s τ hs)⟩⟩
end

def Oper.reads (o : Oper) : List Nat := o.op.operands.toList.filterMap fun | .tmp t => some t | _ => none

/-- Operation o yields a value of type V, in whatever later world, if the slots that it reads are as Γ says. -/
def OpOk (P : Program) (w0 : World) (Γ : Ctx) (o : Oper) (V : Ty) : Prop :=
  ∀ (a : Act) (w : World) (K : Act → World → Prop) (Q : Exit → Act → World → Prop), Below w0.heap.size w0 w →
    (∀ (s : Nat) (τ : Ty), s ∈ Oper.reads o → look Γ s = some τ → ∃ v, a.tmps[s]? = some v ∧ τ.p w v) →
    (∀ v w', V.p w' v → Below w.heap.size w w' → K (a.put o.dst v) w') → o.wp P a w K Q

def slotOf (ops : Array Oper) (j : Nat) : Option Nat := (ops[j]?).bind (·.dst)

def isNew (o : Oper) : Bool := match o.op with | .alloc _ => true | _ => false

/-- A line: what an operation does to Γ. -/
inductive Fact (P : Program) (ops : Array Oper) (w0 : World) (Γ : Ctx) (o : Oper) (V : Ty) : Prop
  | run (hg : o.guard = none) (hn : isNew o = false) (h : OpOk P w0 Γ o V)
  | yes {j s : Nat} {b : Bool} (hg : o.guard = some (j, b)) (hj : slotOf ops j = some s) (hs : look Γ s = some (Ty.ex (.bool b))) (hn : isNew o = false) (h : OpOk P w0 Γ o V)
  | no {j s : Nat} {b c : Bool} (hg : o.guard = some (j, c)) (hj : slotOf ops j = some s) (hs : look Γ s = some (Ty.ex (.bool b))) (hbc : (b == c) = false) (hn : isNew o = false) (hV : V = Ty.ex undef)
  | new {t : TypeId} {z : Array Value} (hg : o.guard = none) (ho : o.op = .alloc t) (hz : ∀ w : World, (Instr.alloc t true (.tuple #[])).run P w = .ok (.pointer (some ⟨w.heap.size, 0, none⟩)) (w.alloc (.cells z t))) (hV : V = Ty.var w0 t z)

/-- The lines of a region, or of its head. -/
inductive Line (P : Program) (ops : Array Oper) (w0 : World) : Ctx → List Oper → List Ty → Prop
  | nil {Γ : Ctx} : Line P ops w0 Γ [] []
  | cons {Γ : Ctx} {d : Nat} {o : Oper} {V : Ty} {os : List Oper} {Vs : List Ty} (hd : o.dst = some d) (h : Fact P ops w0 Γ o V) (t : Line P ops w0 ((d, V) :: Γ) os Vs) : Line P ops w0 Γ (o :: os) (V :: Vs)
def ext : Ctx → List Oper → List Ty → Ctx
  | Γ, o :: os, V :: Vs => ext ((o.dst.getD 0, V) :: Γ) os Vs
  | Γ, _, _ => Γ

/-- What is asked of a region's order: edges go back; slots are written once; what is read is waited for. -/
def okAt (ops : Array Oper) (N n i : Nat) (o : Oper) : Bool :=
  (o.after.all fun e => !Region.binds .any e || decide (e.on < i)) &&
  (match o.dst with
   | none => false
   | some d => decide (d < N) && (List.range n).all fun j => match ops[j]? with
     | none => false
     | some oj => (j == i) || (oj.dst != some d &&
        (!(oj.looksAt ops).contains d || (if decide (i < j) then Region.waitsFor .any ops j i else Region.waitsFor .any ops i j))))
def regB (ops : Array Oper) (N n : Nat) : Bool := (List.range n).all fun i => match ops[i]? with | none => false | some o => okAt ops N n i o
theorem regB_at {ops : Array Oper} {N n i : Nat} (h : regB ops N n = true) (hi : i < n) : ∃ o d, ops[i]? = some o ∧ o.dst = some d ∧ d < N ∧ (∀ e ∈ o.after, Region.binds .any e = true → e.on < i) ∧
    ∀ (j : Nat) (oj : Oper), j < n → ops[j]? = some oj → j ≠ i → oj.dst ≠ some d ∧ (d ∈ oj.looksAt ops → (i < j → Region.waitsFor .any ops j i = true) ∧ (j < i → Region.waitsFor .any ops i j = true)) := by
  have h1 := List.all_eq_true.1 h i (List.mem_range.2 hi)
  cases ho : ops[i]? with
  | none => rw [ho] at h1; cases h1
  | some o =>
    rw [ho] at h1
    simp only [okAt, Bool.and_eq_true] at h1
    obtain ⟨h2, h3⟩ := h1
    cases hd : o.dst with
    | none => rw [hd] at h3; cases h3
    | some d =>
      rw [hd] at h3
      simp only [Bool.and_eq_true, decide_eq_true_eq] at h3
      refine ⟨o, d, rfl, hd, h3.1, fun e he hb => ?_, fun j oj hj hoj hne => ?_⟩
      · simp only [Array.all_eq_true_iff_forall_mem] at h2
        have := h2 e he
        simp [hb] at this
        exact this
      · have h4 := List.all_eq_true.1 h3.2 j (List.mem_range.2 hj)
        rw [hoj] at h4
        simp only [Bool.or_eq_true, Bool.and_eq_true, beq_iff_eq, bne_iff_ne, ne_eq, Bool.not_eq_true', hne, false_or] at h4
        refine ⟨h4.1, fun hm => ?_⟩
        have h5 := h4.2
        have h6 : ((oj.looksAt ops).contains d) = true := by simpa using hm
        rw [h6] at h5
        simp only [Bool.true_eq_false, false_or] at h5
        refine ⟨fun hlt => ?_, fun hlt => ?_⟩
        · rwa [if_pos (by simpa using hlt)] at h5
        · rwa [if_neg (by simp; omega)] at h5

theorem reads_looksAt {ops : Array Oper} {o : Oper} {s : Nat} (h : s ∈ Oper.reads o) : s ∈ o.looksAt ops := by
  unfold Oper.looksAt
  exact List.mem_append_left _ h
theorem guard_looksAt {ops : Array Oper} {o : Oper} {j s : Nat} {b : Bool} (hg : o.guard = some (j, b)) (hj : slotOf ops j = some s) : s ∈ o.looksAt ops := by
  unfold Oper.looksAt
  refine List.mem_append_right _ ?_
  rw [hg]
  simp only [slotOf] at hj
  simp [hj]

/-- What Γ says of the slots that an operation looks at. -/
def Sees (ops : Array Oper) (Γ : Ctx) (o : Oper) (a : Act) (w : World) : Prop := ∀ (s : Nat) (τ : Ty), s ∈ o.looksAt ops → look Γ s = some τ → ∃ v, a.tmps[s]? = some v ∧ τ.p w v

theorem yielded_of {ops : Array Oper} {a : Act} {j s : Nat} {b : Bool} (hj : slotOf ops j = some s) (hv : a.tmps[s]? = some (.bool b)) : yielded ops a.tmps j = some b := by
  unfold slotOf at hj
  simp [yielded, hj, hv]

section
variable {P : Program} {ops : Array Oper} {w0 : World} {Γ : Ctx} {o : Oper} {V : Ty}
theorem wp_new {K : Act → World → Prop} {Q : Exit → Act → World → Prop} {t : TypeId} {z : Array Value} {a : Act} {w : World} (ho : o.op = .alloc t)
    (hz : (Instr.alloc t true (.tuple #[])).run P w = .ok (.pointer (some ⟨w.heap.size, 0, none⟩)) (w.alloc (.cells z t))) (hK : K (a.put o.dst (.pointer (some ⟨w.heap.size, 0, none⟩))) (w.alloc (.cells z t))) : o.wp P a w K Q := by
  unfold Oper.wp execOp
  simp only [ho, Sem.run_bind, hz, Result.andThen_ok, Sem.run_pure]
  exact hK
/-- A line's operation at work. -/
theorem Fact.at_work (h : Fact P ops w0 Γ o V) {a : Act} {w : World} (hb : Below w0.heap.size w0 w) (hs : Sees ops Γ o a w) (K : Act → World → Prop) (Q : Exit → Act → World → Prop)
    (hK : ∀ v w', V.p w' v → Below w.heap.size w w' → (isNew o = true → v = .pointer (some ⟨w.heap.size, 0, none⟩) ∧ w.heap.size < w'.heap.size) → K (a.put o.dst v) w') :
    if Region.wanted o (yielded ops a.tmps) then o.wp P a w K Q else K (a.put o.dst undef) w := by
  cases h with
  | run hg hn h =>
    rw [if_pos (by simp [Region.wanted, hg])]
    exact h a w K Q hb (fun s τ hr hl => hs s τ (reads_looksAt hr) hl) (fun v w' h1 h2 => hK v w' h1 h2 (fun hn' => by rw [hn] at hn'; cases hn'))
  | @yes j s b hg hj hl hn h =>
    obtain ⟨v, hv, he⟩ := hs s _ (guard_looksAt hg hj) hl
    have he : v = .bool b := he
    subst he
    rw [if_pos (by simp [Region.wanted, hg, yielded_of hj hv])]
    exact h a w K Q hb (fun s τ hr hl => hs s τ (reads_looksAt hr) hl) (fun v w' h1 h2 => hK v w' h1 h2 (fun hn' => by rw [hn] at hn'; cases hn'))
  | @no j s b c hg hj hl hbc hn hV =>
    obtain ⟨v, hv, he⟩ := hs s _ (guard_looksAt hg hj) hl
    have he : v = .bool b := he
    subst he
    rw [if_neg (by cases b <;> cases c <;> simp at hbc <;> simp [Region.wanted, hg, yielded_of hj hv])]
    exact hK undef w (by rw [hV]; rfl) (Below.refl _ _) (fun hn' => by rw [hn] at hn'; cases hn')
  | @new t z hg ho hz hV =>
    rw [if_pos (by simp [Region.wanted, hg])]
    refine wp_new ho (hz w) (hK _ _ ?_ ((Keeps.refl [] w).alloc _).below (fun _ => ⟨rfl, by simp⟩))
    rw [hV]
    exact ⟨_, rfl, hb.size, Blk.new w _ _⟩

theorem Line.at_ {l : List Oper} {Vs : List Ty} (h : Line P ops w0 Γ l Vs) : ∀ (i : Nat) (o : Oper), l[i]? = some o → ∃ V Γi, Vs[i]? = some V ∧ Fact P ops w0 Γi o V ∧
    ∀ (s : Nat) (τ : Ty), look Γi s = some τ → (∃ (j : Nat) (oj : Oper), j < i ∧ l[j]? = some oj ∧ oj.dst = some s ∧ Vs[j]? = some τ) ∨ ((∀ (j : Nat) (oj : Oper), j < i → l[j]? = some oj → oj.dst ≠ some s) ∧ look Γ s = some τ) := by
  induction h with
  | nil => intro i o h; simp at h
  | @cons Γ d o V os Vs hd hF t ih =>
    intro i o' ho'
    cases i with
    | zero =>
      simp only [List.getElem?_cons_zero, Option.some.injEq] at ho'
      subst ho'
      exact ⟨V, Γ, rfl, hF, fun s τ hl => .inr ⟨fun j oj hj => absurd hj (Nat.not_lt_zero _), hl⟩⟩
    | succ i =>
      simp only [List.getElem?_cons_succ] at ho'
      obtain ⟨V', Γi, h1, h2, h3⟩ := ih i o' ho'
      refine ⟨V', Γi, by simpa using h1, h2, fun s τ hl => ?_⟩
      rcases h3 s τ hl with ⟨j, oj, hj, hoj, hds, hVj⟩ | ⟨hno, hlk⟩
      · exact .inl ⟨j + 1, oj, by omega, by simpa using hoj, hds, by simpa using hVj⟩
      · by_cases hds : d = s
        · subst hds
          rw [look_same] at hlk
          injection hlk with hlk
          subst hlk
          exact .inl ⟨0, o, by omega, rfl, hd, rfl⟩
        · rw [look_ne _ _ hds] at hlk
          refine .inr ⟨fun j oj hj hoj => ?_, hlk⟩
          cases j with
          | zero =>
            simp only [List.getElem?_cons_zero, Option.some.injEq] at hoj
            subst hoj
            rw [hd]
            simpa using hds
          | succ j => exact hno j oj (by omega) (by simpa using hoj)
theorem Line.ext_look {l : List Oper} {Vs : List Ty} (h : Line P ops w0 Γ l Vs) : ∀ (s : Nat) (τ : Ty), look (ext Γ l Vs) s = some τ →
    (∃ (j : Nat) (oj : Oper), l[j]? = some oj ∧ oj.dst = some s ∧ Vs[j]? = some τ) ∨ ((∀ (j : Nat) (oj : Oper), l[j]? = some oj → oj.dst ≠ some s) ∧ look Γ s = some τ) := by
  induction h with
  | nil => intro s τ hl; exact .inr ⟨fun j oj h => by simp at h, hl⟩
  | @cons Γ d o V os Vs hd hF t ih =>
    intro s τ hl
    have e : ext Γ (o :: os) (V :: Vs) = ext ((d, V) :: Γ) os Vs := by simp [ext, hd]
    rw [e] at hl
    rcases ih s τ hl with ⟨j, oj, hoj, hds, hVj⟩ | ⟨hno, hlk⟩
    · exact .inl ⟨j + 1, oj, by simpa using hoj, hds, by simpa using hVj⟩
    · by_cases hds : d = s
      · subst hds
        rw [look_same] at hlk
        injection hlk with hlk
        subst hlk
        exact .inl ⟨0, o, rfl, hd, rfl⟩
      · rw [look_ne _ _ hds] at hlk
        refine .inr ⟨fun j oj hoj => ?_, hlk⟩
        cases j with
        | zero =>
          simp only [List.getElem?_cons_zero, Option.some.injEq] at hoj
          subst hoj
          rw [hd]
          simpa using hds
        | succ j => exact hno j oj (by simpa using hoj)
end

/-- Of the operations that are listed. -/
structure TInv (N n : Nat) (l : List Oper) (Vs : List Ty) (a0 : Act) (w0 : World) (listed : Array Bool) (a : Act) (w : World) : Prop where
  below : Below w0.heap.size w0 w
  defers : a.defers = []
  size : a.tmps.size = N
  out : ∀ s, (∀ (j : Nat) (oj : Oper), j < n → listed.getD j false = true → l[j]? = some oj → oj.dst ≠ some s) → a.tmps[s]? = a0.tmps[s]?
  vals : ∀ (j : Nat) (oj : Oper) (d : Nat) (V : Ty), j < n → listed.getD j false = true → l[j]? = some oj → oj.dst = some d → Vs[j]? = some V → ∃ v, a.tmps[d]? = some v ∧ V.p w v ∧ (isNew oj = true → ∃ g, v = .pointer (some ⟨g, 0, none⟩) ∧ g < w.heap.size)
  news : ∀ (i j : Nat) (oi oj : Oper) (di dj : Nat), i < n → j < n → i ≠ j → listed.getD i false = true → listed.getD j false = true → l[i]? = some oi → l[j]? = some oj → isNew oi = true → isNew oj = true → oi.dst = some di → oj.dst = some dj → a.tmps[di]? ≠ a.tmps[dj]?

/-- New variables are unlike. -/
def News (l : List Oper) (a : Act) : Prop := ∀ (i j : Nat) (oi oj : Oper) (di dj : Nat), i ≠ j → l[i]? = some oi → l[j]? = some oj → isNew oi = true → isNew oj = true → oi.dst = some di → oj.dst = some dj → a.tmps[di]? ≠ a.tmps[dj]?

section
variable {P : Program} {w0 : World} {Γ : Ctx} {N n : Nat} {l : List Oper} {Vs : List Ty} {a0 : Act} {ops : Array Oper}
theorem TInv.start (hF : Fr N Γ a0 w0) {w : World} (hb : Below w0.heap.size w0 w) (m : Nat) : TInv N n l Vs a0 w0 (Array.replicate m false) a0 w :=
  ⟨hb, hF.defers, hF.size, fun _ _ => rfl, fun j _ _ _ _ h => (by rw [getD_replicate_false] at h; cases h), fun i _ _ _ _ _ _ _ _ h => (by rw [getD_replicate_false] at h; cases h)⟩
theorem TInv.step (hB : regB ops N n = true) (hl : ∀ i, i < n → l[i]? = ops[i]?) (hL : Line P ops w0 Γ l Vs) (hF : Fr N Γ a0 w0) {listed : Array Bool} {a : Act} {w : World} (hI : TInv N n l Vs a0 w0 listed a w)
    (hsz : listed.size = ops.size) (hcl : ∀ (j : Nat) (oj : Oper), ops[j]? = some oj → listed.getD j false = true → ∀ e ∈ oj.after, Region.binds .any e = true → listed.getD e.on false = true)
    {i : Nat} {o : Oper} (hi : i < n) (ho : ops[i]? = some o) (hun : listed.getD i false = false) (hdep : ∀ e ∈ o.after, Region.binds .any e = true → listed.getD e.on false = true) (K : Act → World → Prop) (Q : Exit → Act → World → Prop)
    (hK : ∀ a' w', TInv N n l Vs a0 w0 (listed.setIfInBounds i true) a' w' → K a' w') :
    if Region.wanted o (yielded ops a.tmps) then o.wp P a w K Q else K (a.put o.dst undef) w := by
  have hli : l[i]? = some o := (hl i hi).trans ho
  obtain ⟨V, Γi, hV, hFa, hlk⟩ := hL.at_ i o hli
  obtain ⟨o', d, ho', hd, hdN, _, hoth⟩ := regB_at hB hi
  obtain rfl : o = o' := Option.some.inj (ho.symm.trans ho')
  have wf : ∀ {p q : Nat} {op : Oper}, ops[p]? = some op → Region.waitsFor .any ops p q = true → ∃ e ∈ op.after, Region.binds .any e = true ∧ e.on = q := fun {p q op} hp hw => by
    obtain ⟨oj, hoj, e, he, hb, hon⟩ := Region.waitsFor_spec hw
    obtain rfl : op = oj := Option.some.inj (hp.symm.trans hoj)
    exact ⟨e, he, hb, hon⟩
  have hsees : Sees ops Γi o a w := by
    intro s τ hs hls
    rcases hlk s τ hls with ⟨j, oj, hj, hoj, hds, hVj⟩ | ⟨hno, hl0⟩
    · have hjn : j < n := by omega
      have hoj' : ops[j]? = some oj := (hl j hjn).symm.trans hoj
      obtain ⟨oj2, dj, hoj2, hdj, _, _, hothj⟩ := regB_at hB hjn
      obtain rfl : oj = oj2 := Option.some.inj (hoj'.symm.trans hoj2)
      obtain rfl : dj = s := Option.some.inj (hdj.symm.trans hds)
      have h1 := ((hothj i o hi ho (by omega)).2 hs).1 hj
      obtain ⟨e, he, hb, hon⟩ := wf ho h1
      have h2 := hdep e he hb
      rw [hon] at h2
      obtain ⟨v, hv1, hv2, _⟩ := hI.vals j oj dj τ hjn h2 hoj hdj hVj
      exact ⟨v, hv1, hv2⟩
    · obtain ⟨v, hv1, hv2⟩ := hF.val s τ hl0
      refine ⟨v, ?_, τ.below hv2 hI.below⟩
      rw [hI.out s (fun k ok hk hlk' hok hdk => ?_)]
      · exact hv1
      · have hok' : ops[k]? = some ok := (hl k hk).symm.trans hok
        have hki : k ≠ i := fun h => by subst h; rw [hun] at hlk'; cases hlk'
        by_cases hlt : k < i
        · exact hno k ok hlt hok hdk
        · obtain ⟨ok2, dk, hok2, hdk2, _, _, hothk⟩ := regB_at hB hk
          obtain rfl : ok = ok2 := Option.some.inj (hok'.symm.trans hok2)
          obtain rfl : dk = s := Option.some.inj (hdk2.symm.trans hdk)
          have h1 := ((hothk i o hi ho (Ne.symm hki)).2 hs).2 (by omega)
          obtain ⟨e, he, hb, hon⟩ := wf hok' h1
          have h2 := hcl k ok hok' hlk' e he hb
          rw [hon, hun] at h2
          cases h2
  refine hFa.at_work hI.below hsees K Q (fun v w' hv hb hnew => hK _ _ ?_)
  rw [hd]
  have hilt : i < listed.size := by rw [hsz]; exact (Array.getElem?_eq_some_iff.1 ho).1
  have hdne : ∀ (j : Nat) (oj : Oper) (dj : Nat), j < n → j ≠ i → l[j]? = some oj → oj.dst = some dj → d ≠ dj := fun j oj dj hj hne hoj hdj h => by
    subst h
    exact (hoth j oj hj ((hl j hj).symm.trans hoj) hne).1 hdj
  refine ⟨hI.below.trans (hb.mono hI.below.size), hI.defers, by simp only [Act.put]; simpa using hI.size, fun s hs => ?_, fun j oj dj Vj hj hlj hoj hdj hVj => ?_, fun p q op oq dp dq hp hq hne hlp hlq hop hoq hnp hnq hdp hdq => ?_⟩
  · have hds : d ≠ s := fun h => hs i o hi (by simp [Array.getD, hilt]) hli (by rw [hd, h])
    simp only [Act.put]
    rw [Array.getElem?_setIfInBounds_ne hds]
    refine hI.out s (fun j oj hj hlj hoj => ?_)
    refine hs j oj hj ?_ hoj
    by_cases hij : i = j
    · subst hij; rw [hun] at hlj; cases hlj
    · rw [getD_set_ne false hij]; exact hlj
  · by_cases hij : i = j
    · subst hij
      obtain rfl : o = oj := Option.some.inj (hli.symm.trans hoj)
      obtain rfl : d = dj := Option.some.inj (hd.symm.trans hdj)
      obtain rfl : V = Vj := Option.some.inj (hV.symm.trans hVj)
      refine ⟨v, ?_, hv, fun hn => ?_⟩
      · simp only [Act.put]
        rw [Array.getElem?_setIfInBounds_self, if_pos (by rw [hI.size]; exact hdN)]
      · obtain ⟨h1, h2⟩ := hnew hn
        exact ⟨_, h1, h2⟩
    · rw [getD_set_ne false hij] at hlj
      obtain ⟨u, h1, h2, h3⟩ := hI.vals j oj dj Vj hj hlj hoj hdj hVj
      refine ⟨u, ?_, Vj.below h2 hb, fun hn => ?_⟩
      · simp only [Act.put]
        rw [Array.getElem?_setIfInBounds_ne (hdne j oj dj hj (Ne.symm hij) hoj hdj)]
        exact h1
      · obtain ⟨g, h4, h5⟩ := h3 hn
        exact ⟨g, h4, Nat.lt_of_lt_of_le h5 hb.size⟩
  · have far : ∀ (j : Nat) (oj : Oper) (dj : Nat), j < n → j ≠ i → l[j]? = some oj → oj.dst = some dj → (a.put (some d) v).tmps[dj]? = a.tmps[dj]? := fun j oj dj hj hji hoj hdj => by
      simp only [Act.put]
      rw [Array.getElem?_setIfInBounds_ne (hdne j oj dj hj hji hoj hdj)]
    have near : (a.put (some d) v).tmps[d]? = some v := by
      simp only [Act.put]
      rw [Array.getElem?_setIfInBounds_self, if_pos (by rw [hI.size]; exact hdN)]
    have lineV : ∀ (j : Nat) (oj : Oper), l[j]? = some oj → ∃ Vj, Vs[j]? = some Vj := fun j oj hoj => let ⟨Vj, _, h, _⟩ := hL.at_ j oj hoj; ⟨Vj, h⟩
    have other : ∀ (j : Nat) (oj : Oper) (dj : Nat), j < n → j ≠ i → listed.getD j false = true → l[j]? = some oj → isNew oj = true → oj.dst = some dj → isNew o = true → a.tmps[dj]? ≠ some v := fun j oj dj hj hji hlj hoj hnj hdj hno h => by
      obtain ⟨Vj, hVj⟩ := lineV j oj hoj
      obtain ⟨u, h1, _, h3⟩ := hI.vals j oj dj Vj hj hlj hoj hdj hVj
      obtain ⟨g, h4, h5⟩ := h3 hnj
      have h6 := (hnew hno).1
      rw [h1] at h
      injection h with h
      rw [h4, h6] at h
      injection h with h
      injection h with h
      injection h with h
      omega
    by_cases hpi : p = i
    · subst hpi
      obtain rfl : o = op := Option.some.inj (hli.symm.trans hop)
      obtain rfl : d = dp := Option.some.inj (hd.symm.trans hdp)
      rw [near, far q oq dq hq (Ne.symm hne) hoq hdq]
      rw [getD_set_ne false hne] at hlq
      exact fun h => other q oq dq hq (Ne.symm hne) hlq hoq hnq hdq hnp h.symm
    · rw [getD_set_ne false (Ne.symm hpi)] at hlp
      by_cases hqi : q = i
      · subst hqi
        obtain rfl : o = oq := Option.some.inj (hli.symm.trans hoq)
        obtain rfl : d = dq := Option.some.inj (hd.symm.trans hdq)
        rw [near, far p op dp hp hpi hop hdp]
        exact other p op dp hp hpi hlp hop hnp hdp hnq
      · rw [getD_set_ne false (Ne.symm hqi)] at hlq
        rw [far p op dp hp hpi hop hdp, far q oq dq hq hqi hoq hdq]
        exact hI.news p q op oq dp dq hp hq hne hlp hlq hop hoq hnp hnq hdp hdq
theorem TInv.all (hL : Line P ops w0 Γ l Vs) (hn : n = l.length) (hF : Fr N Γ a0 w0) {listed : Array Bool} {a : Act} {w : World} (hI : TInv N n l Vs a0 w0 listed a w) (hall : ∀ i, i < n → listed.getD i false = true) :
    Fr N (ext Γ l Vs) a w ∧ News l a := by
  have lt : ∀ (j : Nat) (oj : Oper), l[j]? = some oj → j < n := fun j oj h => by rw [hn]; exact (List.getElem?_eq_some_iff.1 h).1
  refine ⟨⟨hI.size, hI.defers, fun s τ hs => ?_⟩, fun i j oi oj di dj hne hi hj h1 h2 h3 h4 => hI.news i j oi oj di dj (lt i oi hi) (lt j oj hj) hne (hall i (lt i oi hi)) (hall j (lt j oj hj)) hi hj h1 h2 h3 h4⟩
  rcases hL.ext_look s τ hs with ⟨j, oj, hoj, hds, hVj⟩ | ⟨hno, hl0⟩
  · obtain ⟨v, h1, h2, _⟩ := hI.vals j oj s τ (lt j oj hoj) (hall j (lt j oj hoj)) hoj hds hVj
    exact ⟨v, h1, h2⟩
  · obtain ⟨v, hv1, hv2⟩ := hF.val s τ hl0
    exact ⟨v, by rw [hI.out s (fun j oj _ _ hoj => hno j oj hoj)]; exact hv1, τ.below hv2 hI.below⟩
end

/-- How many of the first n are still to come. -/
def wanting (n : Nat) (listed : Array Bool) : Nat := ((List.range n).filter fun i => !listed.getD i false).length
theorem wanting_zero {n : Nat} {listed : Array Bool} (h : wanting n listed = 0) : ∀ i, i < n → listed.getD i false = true := by
  intro i hi
  unfold wanting at h
  have h1 := List.eq_nil_of_length_eq_zero h
  rw [List.filter_eq_nil_iff] at h1
  have := h1 i (List.mem_range.2 hi)
  simpa using this
theorem filter_less_one {l : List Nat} (hd : l.Nodup) {p q : Nat → Bool} {i : Nat} (hi : i ∈ l) (hp : p i = true) (hq : q i = false) (hpq : ∀ j ∈ l, j ≠ i → q j = p j) : (l.filter q).length + 1 = (l.filter p).length := by
  induction l with
  | nil => cases hi
  | cons x l ih =>
    rw [List.nodup_cons] at hd
    by_cases hx : x = i
    · subst hx
      have e : l.filter q = l.filter p := List.filter_congr fun j hj => hpq j (by simp [hj]) (fun h => hd.1 (h ▸ hj))
      rw [List.filter_cons_of_neg (by simp [hq]), List.filter_cons_of_pos hp, e]
      rfl
    · have hi' : i ∈ l := by
        rcases List.mem_cons.1 hi with h | h
        · exact absurd h.symm hx
        · exact h
      have h := ih hd.2 hi' (fun j hj hne => hpq j (by simp [hj]) hne)
      have hqx := hpq x (by simp) hx
      by_cases hpx : p x = true
      · rw [List.filter_cons_of_pos (by rw [hqx]; exact hpx), List.filter_cons_of_pos hpx]
        simp only [List.length_cons]; omega
      · rw [List.filter_cons_of_neg (by rw [hqx]; exact hpx), List.filter_cons_of_neg hpx]
        exact h
theorem wanting_set {n i : Nat} {listed : Array Bool} (hi : i < n) (hl : i < listed.size) (h : listed.getD i false = false) : wanting n (listed.setIfInBounds i true) + 1 = wanting n listed := by
  unfold wanting
  refine filter_less_one List.nodup_range (List.mem_range.2 hi) (by simp [h]) ?_ (fun j _ hne => ?_)
  · simp [Array.getD, hl]
  · rw [getD_set_ne false (Ne.symm hne)]
theorem ready_head {ops : Array Oper} {listed : Array Bool} {n : Nat} (hback : ∀ i o, i < n → ops[i]? = some o → ∀ e ∈ o.after, Region.binds .any e = true → e.on < i) (hn : n ≤ ops.size) (hs : listed.size = ops.size)
    (h : Region.ready .any ops listed = []) : ∀ i, i < n → listed.getD i false = true := by
  intro i
  induction i using Nat.strongRecOn with
  | ind i ih =>
    intro hi
    cases hv : listed.getD i false with
    | true => rfl
    | false =>
      exfalso
      have hio : i < ops.size := by omega
      have hmem : i ∈ Region.ready .any ops listed := mem_ready.2 ⟨by
          have hl : i < listed.size := by omega
          simpa [Array.getD, hl] using hv, ops[i], Array.getElem?_eq_getElem hio, fun e he hb => by
          have h1 := hback i ops[i] hi (Array.getElem?_eq_getElem hio) e he hb
          exact ih e.on h1 (by omega)⟩
      rw [h] at hmem
      cases hmem
theorem all_listed {ops : Array Oper} {n : Nat} {listed : Array Bool} (inv : HeadInv .any ops n listed) (h : ∀ i, i < n → listed.getD i false = true) (hn : n ≤ ops.size) : listed = (List.replicate n true ++ List.replicate (ops.size - n) false).toArray := by
  apply Array.ext_getElem?
  intro i
  have e : (List.replicate n true ++ List.replicate (ops.size - n) false).toArray[i]? = (List.replicate n true ++ List.replicate (ops.size - n) false)[i]? := List.getElem?_toArray ..
  rw [e]
  clear e
  by_cases hi : i < n
  · have h1 := h i hi
    have hl : i < listed.size := by rw [inv.size]; omega
    rw [List.getElem?_append_left (by simpa using hi), List.getElem?_replicate, if_pos hi, Array.getElem?_eq_getElem hl]
    simp [Array.getD, hl] at h1
    rw [h1]
  · by_cases hi2 : i < ops.size
    · have h1 := inv.tail i (by omega) hi2
      have hl : i < listed.size := by rw [inv.size]; omega
      rw [List.getElem?_append_right (by simp; omega), List.getElem?_replicate, if_pos (by simp; omega), Array.getElem?_eq_getElem hl]
      simp [Array.getD, hl] at h1
      rw [h1]
    · rw [Array.getElem?_eq_none (by rw [inv.size]; omega), List.getElem?_eq_none (by simp; omega)]

/-- The order of what stands behind the head. -/
def tailB (ops : Array Oper) (n : Nat) : Bool :=
  if n == ops.size then true else
  decide (n < ops.size) && Region.sinkB .any ops n && Region.chainB .any ops n && Region.seqB .any ops (ops.size - n) n (List.replicate n true ++ List.replicate (ops.size - n) false).toArray

section
variable {P : Program} {w0 : World} {Γ : Ctx} {N : Nat} {Vs : List Ty} {a0 : Act}
/-- **A region by types.** Its first n operations are told by a derivation in the order of the text; the rest goes in the order of the text. -/
theorem region_ty {id : Nat} {Q : Exit → Act → World → Prop} {l : List Oper} {draw : Bool} (n : Nat) (hm : P.follows .mixedOrders = true) (hB : (regB l.toArray N n && tailB l.toArray n) = true) (hF : Fr N Γ a0 w0)
    (hL : Line P l.toArray w0 Γ (l.take n) Vs)
    (hQ : ∀ a w, Fr N (ext Γ (l.take n) Vs) a w → Below w0.heap.size w0 w → News (l.take n) a → wpList P l.toArray Q (l.drop n) a w) : (Code.region id l.toArray draw).wp P Q a0 w0 := by
  rw [Bool.and_eq_true] at hB
  obtain ⟨hB, hT⟩ := hB
  have hsize : l.toArray.size = l.length := by simp
  have hnl : n ≤ l.toArray.size := by
    unfold tailB at hT
    split at hT
    · rename_i h; simp at h; simp [h]
    · simp only [Bool.and_eq_true, decide_eq_true_eq] at hT; omega
  have hlen : n = (l.take n).length := by simp at hnl ⊢; omega
  have hli : ∀ i, i < n → (l.take n)[i]? = l.toArray[i]? := fun i hi => by simp [hi]
  have hback : ∀ i o, i < n → l.toArray[i]? = some o → ∀ e ∈ o.after, Region.binds .any e = true → e.on < i := fun i o hi ho e he hb => by
    obtain ⟨o', d, ho', _, _, h, _⟩ := regB_at hB hi
    obtain rfl : o = o' := Option.some.inj (ho.symm.trans ho')
    exact h e he hb
  have fin : ∀ (listed : Array Bool) a w, TInv N n (l.take n) Vs a0 w0 listed a w → (∀ i, i < n → listed.getD i false = true) → wpList P l.toArray Q (l.drop n) a w := fun listed a w hI hall => by
    obtain ⟨h1, h2⟩ := hI.all hL hlen hF hall
    exact hQ a w h1 hI.below h2
  cases draw with
  | true =>
    have key : ∀ (f : Nat) (listed : Array Bool) (a : Act) (w : World), HeadInv .any l.toArray n listed → wanting n listed = f → TInv N n (l.take n) Vs a0 w0 listed a w → wpAny P .any l.toArray Q (f + (l.toArray.size - n)) listed a w := by
      intro f
      induction f with
      | zero =>
        intro listed a w hH h0 hI
        have hall := wanting_zero h0
        have hdl : (l.drop n).length = l.toArray.size - n := by simp
        have e := all_listed hH hall hnl
        have hseq : Region.seqB .any l.toArray (l.toArray.size - n) n listed = true := by
          unfold tailB at hT
          split at hT
          · rename_i h
            have hz : n = l.toArray.size := by simpa using h
            have h2 : l.toArray.size - n = 0 := by omega
            rw [h2]
            simp only [Region.seqB, List.isEmpty_iff]
            unfold Region.ready
            rw [List.filter_eq_nil_iff]
            intro i hi
            have hi' := List.mem_range.1 hi
            have h3 := hall i (by omega)
            have hil : i < listed.size := by rw [hH.size]; exact hi'
            simp [Array.getD, hil] at h3 ⊢
            simp [h3]
          · simp only [Bool.and_eq_true] at hT
            rw [e]; exact hT.2
        have := wpAny_of_seq (md := .any) (Q' := Q) (l.drop n) n listed a w (fun j => by simp [List.getElem?_drop]) (by rw [hdl]; exact hseq) (fin listed a w hI hall)
        rw [Nat.zero_add]
        rwa [hdl] at this
      | succ f ih =>
        intro listed a w hH h0 hI
        rw [show f + 1 + (l.toArray.size - n) = (f + (l.toArray.size - n)) + 1 by omega]
        have hex : ∃ i, i < n ∧ listed.getD i true = false := by
          refine Classical.byContradiction fun hno => ?_
          have hz : wanting n listed = 0 := by
            unfold wanting
            rw [List.length_eq_zero_iff, List.filter_eq_nil_iff]
            intro i hi
            have hi' := List.mem_range.1 hi
            have hl : i < listed.size := by rw [hH.size]; omega
            have h1 : ¬ listed.getD i true = false := fun h => hno ⟨i, hi', h⟩
            simp [Array.getD, hl] at h1 ⊢
            exact h1
          omega
        obtain ⟨i0, hi0, hun0⟩ := hex
        refine ⟨fun hr => ?_, fun i hi => ?_⟩
        · exfalso
          have := ready_head hback hnl hH.size hr i0 hi0
          rw [getD_both hun0] at this
          cases this
        · obtain ⟨h1, o, ho, h2⟩ := mem_ready.1 hi
          have hin : i < n := Nat.lt_of_not_le fun h => by
            have hio := (Array.getElem?_eq_some_iff.1 ho).1
            unfold tailB at hT
            split at hT
            · rename_i h'; simp at h'; omega
            · simp only [Bool.and_eq_true, decide_eq_true_eq] at hT
              exact tail_waits hT.1.1.2 hT.1.2 hT.1.1.1 hH _ i0 rfl hi0 hun0 i h hi
          have hil : i < listed.size := by rw [hH.size]; omega
          have h3 := TInv.step hB hli hL hF hI hH.size hH.closed hin ho (getD_both h1) h2 (wpAny P .any l.toArray Q (f + (l.toArray.size - n)) (listed.setIfInBounds i true)) Q (fun a' w' hI' => by
            refine ih _ a' w' (hH.set hi hin) ?_ hI'
            have := wanting_set hin hil (getD_both h1)
            omega)
          unfold wpOp
          simp only [ho]
          split
          · rename_i hw
            rw [if_pos hw] at h3
            exact .inl h3
          · rename_i hw
            rw [if_neg hw] at h3
            exact h3
    have inv0 : HeadInv .any l.toArray n (Array.replicate l.toArray.size false) :=
      ⟨by simp, fun j oj _ hl => (by rw [getD_replicate_false] at hl; cases hl), fun t _ ht => getD_in (by simpa using ht) (getD_replicate_false _ _)⟩
    have h0 : wanting n (Array.replicate l.toArray.size false) = n := by
      unfold wanting
      rw [List.filter_eq_self.2 (fun i _ => by rw [getD_replicate_false]; rfl), List.length_range]
    refine wp_region_any hm ?_
    have := key n _ a0 w0.drew inv0 h0 (TInv.start hF (Below.refl _ _).drew _)
    rw [show n + (l.toArray.size - n) = l.toArray.size by omega] at this
    exact this
  | false =>
    have key : ∀ (f k : Nat) (a : Act) (w : World), k + f = n → TInv N n (l.take n) Vs a0 w0 ((List.replicate k true ++ List.replicate (l.toArray.size - k) false).toArray) a w → wpList P l.toArray Q (l.drop k) a w := by
      intro f
      induction f with
      | zero =>
        intro k a w hk hI
        obtain rfl : k = n := by omega
        refine fin _ a w hI (fun i hi => ?_)
        simp [Array.getD, hi]
        omega
      | succ f ih =>
        intro k a w hk hI
        have hkn : k < n := by omega
        have hkl : k < l.length := by omega
        have hdrop : l.drop k = l[k] :: l.drop (k + 1) := by rw [List.drop_eq_getElem_cons hkl]
        have getD_k : ∀ m j, m ≤ l.toArray.size → (List.replicate m true ++ List.replicate (l.toArray.size - m) false).toArray.getD j false = decide (j < m) := fun m j hm => by
          by_cases hj : j < m
          · simp [Array.getD, hj]; omega
          · simp [Array.getD, List.getElem_append, hj]
        have ho : l.toArray[k]? = some l[k] := by simp [hkl]
        have hset : (List.replicate k true ++ List.replicate (l.toArray.size - k) false).toArray.setIfInBounds k true = (List.replicate (k + 1) true ++ List.replicate (l.toArray.size - (k + 1)) false).toArray := by
          apply Array.ext_getElem?
          intro j
          rw [show l.toArray.size - k = (l.toArray.size - (k + 1)) + 1 by omega, List.replicate_succ, List.replicate_succ']
          simp only [List.setIfInBounds_toArray, List.getElem?_toArray, List.append_assoc, List.singleton_append]
          rw [List.set_append_right _ _ (by simp)]
          simp
        rw [hdrop]
        refine wpList_step fun K hK => ?_
        refine TInv.step hB hli hL hF hI (by simp; omega) (fun j oj hj hl e he hb => ?_) hkn ho (by rw [getD_k k k (by omega)]; simp) (fun e he hb => ?_) K Q (fun a' w' hI' => hK a' w' (ih (k + 1) a' w' (by omega) (by rw [← hset]; exact hI')))
        · rw [getD_k k _ (by omega)] at hl ⊢
          simp only [decide_eq_true_eq] at hl ⊢
          have := hback j oj (by omega) hj e he hb
          omega
        · rw [getD_k k _ (by omega)]
          simp only [decide_eq_true_eq]
          exact hback k _ hkn ho e he hb
    refine wp_region_lit ?_
    have := key n 0 a0 w0 (by omega) (by
      have e : (List.replicate 0 true ++ List.replicate (l.toArray.size - 0) false).toArray = Array.replicate l.toArray.size false := by simp
      rw [e]
      exact TInv.start hF (Below.refl _ _) _)
    simpa using this
end
end Go.Proofs.Ytkdkmnemmenikaa

/- Regions by types: the lines of single operations; the walk of a function by types: entering, branches, loops, returning. -/
namespace Go.Proofs.Ytkdkmnemmenikaa
open Go.RowKit

/-- What Γ says of an operand. -/
def OpT (Γ : Ctx) : Operand → Ty → Prop
  | .tmp s, τ => look Γ s = some τ
  | .const v, τ => Ty.ex v = τ
  | .func f, τ => Ty.ex (.func (.func f) #[] #[]) = τ
  | .global g, τ => Ty.ex (.pointer (some ⟨g, 0, none⟩)) = τ

/-- A call: it returns a value of type V; what lay there lies there. -/
def Ret (P : Program) (f : FuncId) (args : Array Value) (w : World) (V : Ty) : Prop := Calls P f args w fun e w' => ∃ u, e = .returned u ∧ V.p w' u ∧ Below w.heap.size w w'

section
variable {P : Program} {w0 : World} {Γ : Ctx} {o : Oper} {V : Ty}
theorem Ret.of {f : FuncId} {args : Array Value} {w : World} {v : Value} (h : Calls P f args w fun e w' => e = .returned v ∧ Below w.heap.size w w') : Ret P f args w (Ty.ex v) :=
  Calls.mono h fun _ _ ⟨h1, h2⟩ => ⟨v, h1, rfl, h2⟩
theorem Ret.of_eq {f : FuncId} {args : Array Value} {w : World} {v : Value} (h : Calls P f args w fun e w' => e = .returned v ∧ w = w') : Ret P f args w (Ty.ex v) :=
  Calls.mono h fun _ _ ⟨h1, h2⟩ => ⟨v, h1, rfl, h2 ▸ Below.refl _ _⟩
/-- What an operation may know: what Γ says of its operands. -/
def SeesO (Γ : Ctx) (o : Oper) (a : Act) (w : World) : Prop := ∀ x τ, x ∈ o.op.operands.toList → OpT Γ x τ → ∃ v, a.eval x = v ∧ τ.p w v
theorem sees_of {a : Act} {w : World} (h : ∀ (s : Nat) (τ : Ty), s ∈ Oper.reads o → look Γ s = some τ → ∃ v, a.tmps[s]? = some v ∧ τ.p w v) : SeesO Γ o a w := by
  intro x τ hx hT
  cases x with
  | tmp s =>
    obtain ⟨v, h1, h2⟩ := h s τ (by unfold Oper.reads; exact List.mem_filterMap.2 ⟨.tmp s, hx, rfl⟩) hT
    exact ⟨v, by simp [Act.eval, Array.getD_eq_getD_getElem?, h1], h2⟩
  | const v => exact ⟨v, rfl, by rw [← show Ty.ex v = τ from hT]; rfl⟩
  | func f => exact ⟨_, rfl, by rw [← show Ty.ex _ = τ from hT]; rfl⟩
  | «global» g => exact ⟨_, rfl, by rw [← show Ty.ex _ = τ from hT]; rfl⟩
theorem OpOk.val (h : ∀ (a : Act) (w : World), Below w0.heap.size w0 w → SeesO Γ o a w → ∃ v, V.p w v ∧ (execOp a.eval o).run P w = .ok (.value v) w) : OpOk P w0 Γ o V := by
  intro a w K Q hb hs hK
  obtain ⟨v, h1, h2⟩ := h a w hb (sees_of hs)
  unfold Oper.wp
  rw [h2]
  exact hK v w h1 (Below.refl _ _)
theorem OpOk.new (h : ∀ (a : Act) (w : World), Below w0.heap.size w0 w → SeesO Γ o a w → ∃ v w', V.p w' v ∧ Below w.heap.size w w' ∧ (execOp a.eval o).run P w = .ok (.value v) w') : OpOk P w0 Γ o V := by
  intro a w K Q hb hs hK
  obtain ⟨v, w', h1, h2, h3⟩ := h a w hb (sees_of hs)
  unfold Oper.wp
  rw [h3]
  exact hK v w' h1 h2
theorem OpOk.call (h : ∀ (a : Act) (w : World), Below w0.heap.size w0 w → SeesO Γ o a w → ∃ f args, (execOp a.eval o).run P w = .ok (.enter f args) w ∧ Ret P f args w V) : OpOk P w0 Γ o V := by
  intro a w K Q hb hs hK
  obtain ⟨f, args, h1, h2⟩ := h a w hb (sees_of hs)
  unfold Oper.wp
  rw [h1]
  refine Calls.mono h2 fun e w' ⟨u, h3, h4, h5⟩ => ?_
  subst h3
  exact hK u w' h4 h5
/-! ### Lines -/
theorem cMove {x : Operand} {τ : Ty} (ho : o.op = .move x) (hx : OpT Γ x τ) : OpOk P w0 Γ o τ :=
  .val fun a w _ hs => by
    obtain ⟨v, h1, h2⟩ := hs x τ (by simp [ho, Op.operands]) hx
    exact ⟨v, h2, by unfold execOp; simp [ho, h1]⟩
theorem cAssign {x : Operand} {τ : Ty} (ho : o.op = .assign x) (hx : OpT Γ x τ) : OpOk P w0 Γ o τ :=
  .val fun a w _ hs => by
    obtain ⟨v, h1, h2⟩ := hs x τ (by simp [ho, Op.operands]) hx
    exact ⟨v, h2, by unfold execOp; simp [ho, h1]⟩
theorem cPickT {c x y : Operand} {τ : Ty} (ho : o.op = .pick c x y) (hc : OpT Γ c (Ty.ex (.bool true))) (hx : OpT Γ x τ) : OpOk P w0 Γ o τ :=
  .val fun a w _ hs => by
    obtain ⟨v, h1, h2⟩ := hs x τ (by simp [ho, Op.operands]) hx
    obtain ⟨b, h3, h4⟩ := hs c _ (by simp [ho, Op.operands]) hc
    have h4 : b = .bool true := h4
    exact ⟨v, h2, by unfold execOp; simp [ho, h1, h3, h4, asBool]⟩
theorem cPickF {c x y : Operand} {τ : Ty} (ho : o.op = .pick c x y) (hc : OpT Γ c (Ty.ex (.bool false))) (hy : OpT Γ y τ) : OpOk P w0 Γ o τ :=
  .val fun a w _ hs => by
    obtain ⟨v, h1, h2⟩ := hs y τ (by simp [ho, Op.operands]) hy
    obtain ⟨b, h3, h4⟩ := hs c _ (by simp [ho, Op.operands]) hc
    have h4 : b = .bool false := h4
    exact ⟨v, h2, by unfold execOp; simp [ho, h1, h3, h4, asBool]⟩
theorem cNot {t : TypeId} {x : Operand} {b : Bool} (ho : o.op = .unOp .not t x) (hx : OpT Γ x (Ty.ex (.bool b))) : OpOk P w0 Γ o (Ty.ex (.bool (!b))) :=
  .val fun a w _ hs => by
    obtain ⟨v, h1, h2⟩ := hs x _ (by simp [ho, Op.operands]) hx
    have h2 : v = .bool b := h2
    exact ⟨_, rfl, by unfold execOp; simp [ho, h1, h2, Op.unary]⟩
/-- An operator on two values that are known. -/
theorem cBin {op : BinOp} {t t2 : TypeId} {x y : Operand} {vx vy v : Value} (ho : o.op = .binOp op t x y t2) (hx : OpT Γ x (Ty.ex vx)) (hy : OpT Γ y (Ty.ex vy))
    (hr : ∀ w : World, (do eqGuard op t x y vx vy; binOp op t vx vy : Sem Value).run P w = .ok v w) : OpOk P w0 Γ o (Ty.ex v) :=
  .val fun a w _ hs => by
    obtain ⟨u, h1, h2⟩ := hs x _ (by simp [ho, Op.operands]) hx
    obtain ⟨u', h3, h4⟩ := hs y _ (by simp [ho, Op.operands]) hy
    have h2 : u = vx := h2
    have h4 : u' = vy := h4
    subst h2 h4
    refine ⟨_, rfl, ?_⟩
    have := hr w
    unfold execOp
    simp only [ho, h1, h3]
    rw [Sem.run_bind, this]
    rfl
section
variable {t t2 : TypeId} {x y : Operand} {k : IntKind} {m n : Int}
theorem cLss (ho : o.op = .binOp .lss t x y t2) (hx : OpT Γ x (Ty.ex (.int k m))) (hy : OpT Γ y (Ty.ex (.int k n))) : OpOk P w0 Γ o (Ty.ex (.bool (decide (m < n)))) :=
  cBin ho hx hy fun w => by simp [eqGuard, binOp, Op.intCmp]
theorem cEql (ho : o.op = .binOp .eql t x y t2) (hx : OpT Γ x (Ty.ex (.int k m))) (hy : OpT Γ y (Ty.ex (.int k n))) : OpOk P w0 Γ o (Ty.ex (.bool (decide (m = n)))) :=
  cBin ho hx hy fun w => by simp [eqGuard, binOp, Op.intCmp]; rfl
theorem cAddW (ho : o.op = .binOp .add t x y t2) (hx : OpT Γ x (Ty.ex (.int k m))) (hy : OpT Γ y (Ty.ex (.int k n))) : OpOk P w0 Γ o (Ty.ex (.int k (k.wrap (m + n)))) :=
  cBin ho hx hy fun w => by simp [eqGuard, binOp, Op.intArith]
/-- The sum, where it is known to be r. -/
theorem cAdd {r : Int} (ho : o.op = .binOp .add t x y t2) (hx : OpT Γ x (Ty.ex (.int .i64 m))) (hy : OpT Γ y (Ty.ex (.int .i64 n))) (hr : m + n = r ∧ -9223372036854775808 ≤ r ∧ r ≤ 9223372036854775807) : OpOk P w0 Γ o (Ty.ex (.int .i64 r)) := by
  have h := cAddW (P := P) (w0 := w0) ho hx hy
  rwa [IntWalk.i64_in _ (by omega), hr.1] at h
end
/-- Slices. -/
def IsSl (τ : Ty) (n : Nat) : Prop := ∀ w v, τ.p w v → ∃ A c, v = .slice A n c
/-- A tuple's types. -/
def All2 (w : World) : List Value → List Ty → Prop
  | [], [] => True
  | v :: vs, τ :: τs => τ.p w v ∧ All2 w vs τs
  | _, _ => False
theorem All2.st {w w' : World} {S : List Nat} (k : Keeps S w w') : ∀ {vs : List Value} {τs : List Ty}, All2 w vs τs → (∀ τ ∈ τs, Apart w S τ.el) → All2 w' vs τs
  | [], [], _, _ => trivial
  | v :: vs, τ :: τs, h, hA => ⟨τ.st h.1 k (hA τ (by simp)), All2.st k h.2 fun σ hσ => hA σ (by simp [hσ])⟩
  | [], _ :: _, h, _ => h.elim
  | _ :: _, [], h, _ => h.elim
theorem All2.at_ {w : World} : ∀ {vs : List Value} {τs : List Ty} {i : Nat} {τ : Ty}, All2 w vs τs → τs[i]? = some τ → ∃ v, vs[i]? = some v ∧ τ.p w v
  | v :: vs, σ :: τs, 0, τ, h, hi => by
    simp only [List.getElem?_cons_zero, Option.some.injEq] at hi
    subst hi
    exact ⟨v, rfl, h.1⟩
  | v :: vs, σ :: τs, i + 1, τ, h, hi => by
    obtain ⟨u, h1, h2⟩ := All2.at_ (i := i) h.2 (by simpa using hi)
    exact ⟨u, by simpa using h1, h2⟩
  | [], [], i, τ, _, hi => by simp at hi
  | [], _ :: _, _, _, h, _ => h.elim
  | _ :: _, [], _, _, h, _ => h.elim
theorem apart_any {w : World} {S : List Nat} {τs : List Ty} (hA : Apart w S fun t => τs.any fun τ => τ.el t) : ∀ τ ∈ τs, Apart w S τ.el := fun τ hτ b hb hl => by
  obtain ⟨cs, t, fr, h1, h2⟩ := hA b hb hl
  refine ⟨cs, t, fr, h1, ?_⟩
  simp only [List.any_eq_false] at h2
  simpa using h2 τ hτ
def Ty.tup (τs : List Ty) : Ty := ⟨fun w v => ∃ vs : List Value, v = .tuple vs.toArray ∧ All2 w vs τs, fun t => τs.any fun τ => τ.el t, fun ⟨vs, h1, h2⟩ k hA => ⟨vs, h1, h2.st k (apart_any hA)⟩⟩
theorem cExtract {x : Operand} {τs : List Ty} {i : Nat} {τ : Ty} (ho : o.op = .extract x i) (hx : OpT Γ x (Ty.tup τs)) (hi : τs[i]? = some τ) : OpOk P w0 Γ o τ :=
  .val fun a w _ hs => by
    obtain ⟨v, h1, vs, h2, h3⟩ := hs x _ (by simp [ho, Op.operands]) hx
    obtain ⟨u, h4, h5⟩ := h3.at_ hi
    refine ⟨u, h5, ?_⟩
    unfold execOp
    simp [ho, h1, h2, Instr.extract, h4]

/-! ### Calls -/
def Enters (P : Program) (f : FuncId) : Prop := ∀ (args : Array Value) (w : World), (callFunc f args).run P w = .ok (.enter f args) w
structure Fn0 (P : Program) (f : FuncId) (ρ : Ty) : Prop where
  en : Enters P f
  ret : ∀ w, Ret P f #[] w ρ
structure Fn1 (P : Program) (f : FuncId) (τ ρ : Ty) : Prop where
  en : Enters P f
  ret : ∀ w v, τ.p w v → Ret P f #[v] w ρ
structure Fn2 (P : Program) (f : FuncId) (τ σ ρ : Ty) : Prop where
  en : Enters P f
  ret : ∀ w v u, τ.p w v → σ.p w u → Ret P f #[v, u] w ρ
theorem exec_go {f : FuncId} {ats : Array TypeId} {xs : Array Operand} (ρ : Operand → Value) (ho : o.op = .call { callee := .value (.func f), args := xs, argTypes := ats }) (hf : ρ (.func f) = .func (.func f) #[] #[]) : execOp ρ o = callFunc f (xs.map ρ) := by
  unfold execOp
  simp only [ho, resolve, hf]
  simp [Deferred.ofValue, invoke]
theorem cCall0 {f : FuncId} {ats : Array TypeId} {ρ : Ty} (ho : o.op = .call { callee := .value (.func f), args := #[], argTypes := ats }) (hc : Fn0 P f ρ) : OpOk P w0 Γ o ρ :=
  .call fun a w _ _ => ⟨f, #[], by rw [exec_go a.eval ho rfl]; simpa using hc.en #[] w, hc.ret w⟩
theorem cCall1 {f : FuncId} {ats : Array TypeId} {x : Operand} {τ ρ : Ty} (ho : o.op = .call { callee := .value (.func f), args := #[x], argTypes := ats }) (hx : OpT Γ x τ) (hc : Fn1 P f τ ρ) : OpOk P w0 Γ o ρ :=
  .call fun a w _ hs => by
    obtain ⟨v, h1, h2⟩ := hs x _ (by simp [ho, Op.operands, Call.operands]) hx
    refine ⟨f, #[v], ?_, hc.ret w v h2⟩
    rw [exec_go a.eval ho rfl]
    simp only [List.map_toArray, List.map_cons, List.map_nil, h1]
    exact hc.en _ w
theorem cCall2 {f : FuncId} {ats : Array TypeId} {x y : Operand} {τ σ ρ : Ty} (ho : o.op = .call { callee := .value (.func f), args := #[x, y], argTypes := ats }) (hx : OpT Γ x τ) (hy : OpT Γ y σ) (hc : Fn2 P f τ σ ρ) : OpOk P w0 Γ o ρ :=
  .call fun a w _ hs => by
    obtain ⟨v, h1, h2⟩ := hs x _ (by simp [ho, Op.operands, Call.operands]) hx
    obtain ⟨u, h3, h4⟩ := hs y _ (by simp [ho, Op.operands, Call.operands]) hy
    refine ⟨f, #[v, u], ?_, hc.ret w v u h2 h4⟩
    rw [exec_go a.eval ho rfl]
    simp only [List.map_toArray, List.map_cons, List.map_nil, h1, h3]
    exact hc.en _ w
end

/-! ### The walk of a function -/
def ctx0 : Nat → List Ty → Ctx
  | _, [] => []
  | k, τ :: τs => (k, τ) :: ctx0 (k + 1) τs
theorem ctx0_look : ∀ (τs : List Ty) (k s : Nat) (τ : Ty), look (ctx0 k τs) s = some τ → k ≤ s ∧ τs[s - k]? = some τ
  | [], k, s, τ, h => by cases h
  | σ :: τs, k, s, τ, h => by
    by_cases hks : k = s
    · subst hks
      have h' : look ((k, σ) :: ctx0 (k + 1) τs) k = some τ := h
      rw [look_same] at h'
      exact ⟨Nat.le_refl _, by simpa using h'⟩
    · have h' : look ((k, σ) :: ctx0 (k + 1) τs) s = some τ := h
      rw [look_ne _ _ hks] at h'
      obtain ⟨h1, h2⟩ := ctx0_look τs (k + 1) s τ h'
      refine ⟨by omega, ?_⟩
      rw [show s - k = (s - (k + 1)) + 1 by omega, List.getElem?_cons_succ]
      exact h2
section
variable {P : Program} {Γ : Ctx} {N : Nat} {a : Act} {w : World} {Q : Exit → Act → World → Prop}
/-- A function is entered. -/
theorem enter_ty {f : FuncId} {fn : Func} {c : Code} {args : List Value} {R : Ending → World → Prop} (N : Nat) (τs : List Ty) (hf : P.funcs[f]? = some fn) (hb : fn.body = some c) (hN : (fn.ntmps == N && decide (args.length ≤ N)) = true) (hA : All2 w args τs)
    (h : ∀ a, Fr N (ctx0 0 τs) a w → c.wp P (bodyPost P fn R) a w) : Calls P f args.toArray w R := by
  simp only [Bool.and_eq_true, beq_iff_eq, decide_eq_true_eq] at hN
  refine calls_of_wp hf hb (h _ ⟨?_, rfl, fun s τ hs => ?_⟩)
  · simp; omega
  · obtain ⟨_, h1⟩ := ctx0_look τs 0 s τ hs
    obtain ⟨v, h2, h3⟩ := hA.at_ h1
    simp only [Nat.sub_zero] at h2
    refine ⟨v, ?_, h3⟩
    have hl : s < args.length := (List.getElem?_eq_some_iff.1 h2).1
    rw [Array.getElem?_append_left (by simpa using hl)]
    simpa using h2
/-- A branch. -/
theorem cond_ty {s : Nat} {b : Bool} {x y : Code} (hF : Fr N Γ a w) (hs : look Γ s = some (Ty.ex (.bool b))) (ht : b = true → x.wp P Q a w) (hf : b = false → y.wp P Q a w) : (Code.cond (.tmp s) x y).wp P Q a w :=
  wp_cond_split (hF.getEx hs) ht hf
theorem cond_f {s : Nat} {x y : Code} (hF : Fr N Γ a w) (hs : look Γ s = some (Ty.ex (.bool false))) (h : y.wp P Q a w) : (Code.cond (.tmp s) x y).wp P Q a w := wp_cond_false (hF.getEx hs) h
/-- A loop: I m holds at the head; m goes down. -/
theorem loop_ty {c : Code} (I : Nat → Act → World → Prop) (m0 : Nat) (h0 : I m0 a w) (round : ∀ m a w, I m a w → c.wp P (Exit.then (fun a' w' => ∃ m', m' < m ∧ I m' a' w') Q) a w) : (Code.loop c).wp P Q a w := by
  intro b k cs
  have key : ∀ (m : Nat) (a : Act) (w : World), I m a w → ∃ e a' w', Q e a' w' ∧ Arrives P (lone (b.at a (.code c :: .inLoop c :: k)) cs w) b k cs e a' w' := by
    intro m
    induction m using Nat.strongRecOn with
    | _ m ih =>
      intro a w hI
      obtain ⟨e, a₁, w₁, hq, harr⟩ := round m a w hI b (.inLoop c :: k) cs
      cases e with
      | normal =>
        obtain ⟨m', hlt, hI₁⟩ := hq
        obtain ⟨e₂, a₂, w₂, hq₂, harr₂⟩ := ih m' hlt a₁ w₁ hI₁
        exact ⟨e₂, a₂, w₂, hq₂, .of_steps (Steps.trans harr (.one step_inLoop)) harr₂⟩
      | exit id => exact ⟨_, a₁, w₁, hq, .pass (x := .inLoop c) rfl (fun _ _ => .inl (by simp)) harr⟩
      | goto l => exact ⟨_, a₁, w₁, hq, .pass (x := .inLoop c) rfl (fun _ _ => .inl (by simp)) harr⟩
      | ret => exact ⟨_, a₁, w₁, hq, .pass (x := .inLoop c) rfl (fun _ _ => .inl (by simp)) harr⟩
      | panic ch => exact ⟨_, a₁, w₁, hq, .pass (x := .inLoop c) rfl (fun _ _ => .inl (by simp)) harr⟩
      | outgrown => exact ⟨_, a₁, w₁, hq, .pass (x := .inLoop c) rfl (fun _ _ => .inl (by simp)) harr⟩
  obtain ⟨e, a', w', hq, harr⟩ := key m0 a w h0
  exact ⟨e, a', w', hq, .of_steps (.one step_loop) harr⟩
/-- A result in a slot. -/
theorem ret1 {fn : Func} {R : Ending → World → Prop} {s : Nat} {τ : Ty} (hF : Fr N Γ a w) (hr : fn.results = #[.tmp s]) (hs : look Γ s = some τ) (h : ∀ v, τ.p w v → R (.returned v) w) : bodyPost P fn R .ret a w := by
  obtain ⟨v, h1, h2⟩ := hF.val s τ hs
  refine bodyPost_ret (v := v) ?_ hF.defers (h v h2)
  simp [results, hr, h1]
/-- A region all of whose operations are lines. -/
theorem reg_all {id : Nat} {l : List Oper} {draw : Bool} {Vs : List Ty} (hF : Fr N Γ a w) (hL : Line P l.toArray w Γ l Vs) (hm : P.follows .mixedOrders = true) (hB : (regB l.toArray N l.length && tailB l.toArray l.length) = true)
    (hQ : ∀ a' w', Fr N (ext Γ l Vs) a' w' → Below w.heap.size w w' → News l a' → Q .normal a' w') : (Code.region id l.toArray draw).wp P Q a w :=
  region_ty l.length hm hB hF (by rw [List.take_length]; exact hL) (fun a' w' h1 h2 h3 => by
    rw [List.take_length] at h1 h3
    rw [List.drop_length]
    exact hQ a' w' h1 h2 h3)
end
end Go.Proofs.Ytkdkmnemmenikaa

/- Arrays of bytes as values: an element, ==; a sum as a list of thirty-two bytes. -/
namespace Go.Proofs.Ytkdkmnemmenikaa
open Go.RowKit

def u8s (l : List Nat) : Array Value := (l.map bv).toArray
theorem u8s_size (l : List Nat) : (u8s l).size = l.length := by simp [u8s]
theorem u8s_one (l : List Nat) : (u8s l).all (·.oneCell') = true := by
  unfold u8s; rw [Array.all_eq_true_iff_forall_mem]; intro v hv; simp at hv; obtain ⟨x, _, rfl⟩ := hv; rfl
theorem u8s_get {l : List Nat} {j : Nat} (h : j < l.length) : (u8s l)[j]? = some (.int .u8 ((l.getD j 0 : Nat) : Int)) := by
  simp [u8s, bv, List.getElem?_map, List.getElem?_eq_getElem h, List.getD]
theorem u8s_set {l : List Nat} {j x : Nat} : (u8s l).setIfInBounds j (.int .u8 (x : Int)) = u8s (l.set j x) := by
  unfold u8s
  rw [List.setIfInBounds_toArray, List.map_set]
  rfl
section
variable {P : Program}
/-- An element of an array by value. -/
theorem run_index_arr (w : World) (t e : TypeId) (n : Nat) (cs : Array Value) (k : IntKind) (i : Nat) (v : Value) (h : P.underlying t = some (.array n e)) (ha : ∀ w, (isAgg e).run P w = .ok false w)
    (hz : ∀ w, (Go.sizeOf e).run P w = .ok 1 w) (hi : i < n) (hv : cs[i]? = some v) : (Instr.index t (.agg cs) (.int k (i : Int))).run P w = .ok v w := by
  simp [Instr.index, run_underlying h, asIntOf, part, ha, hz, hi, hv]

theorem run_eqItems_bytes (d : Nat) (e : TypeId) (he : P.underlying e = some (.int .u8)) (ha : ∀ w, (isAgg e).run P w = .ok false w) (x y : List Nat) (w : World) : ∀ is : List Nat, (∀ i ∈ is, i < x.length ∧ i < y.length) →
    (Op.eqItems (d + 1) e 1 (u8s x) (u8s y) is).run P w = .ok (is.all fun i => x.getD i 0 == y.getD i 0) w
  | [], _ => by simp [Op.eqItems]
  | i :: is, h => by
    obtain ⟨h1, h2⟩ := h i (by simp)
    have ih := run_eqItems_bytes d e he ha x y w is (fun j hj => h j (by simp [hj]))
    have p1 : (part e (u8s x) (i * 1)).run P w = .ok (.int .u8 ((x.getD i 0 : Nat) : Int)) w := by simp [part, ha, u8s_get h1]
    have p2 : (part e (u8s y) (i * 1)).run P w = .ok (.int .u8 ((y.getD i 0 : Nat) : Int)) w := by simp [part, ha, u8s_get h2]
    have hb : (((x.getD i 0 : Nat) : Int) == ((y.getD i 0 : Nat) : Int)) = (x.getD i 0 == y.getD i 0) := by
      rw [Bool.eq_iff_iff]; simp only [beq_iff_eq]; omega
    simp only [Op.eqItems, Sem.run_bind, p1, p2, Result.andThen_ok, run_equalIn_int w d e .u8 .u8 _ _ he, hb, List.all_cons]
    cases x.getD i 0 == y.getD i 0
    · simp
    · simpa using ih

theorem all_range (x y : List Nat) (n : Nat) (hx : x.length = n) (hy : y.length = n) : ((List.range n).all fun i => x.getD i 0 == y.getD i 0) = decide (x = y) := by
  rw [Bool.eq_iff_iff, List.all_eq_true, decide_eq_true_eq]
  constructor
  · intro h
    apply List.ext_getElem (by omega)
    intro i h1 h2
    have := h i (by simp; omega)
    simpa [List.getD, List.getElem?_eq_getElem h1, List.getElem?_eq_getElem h2] using this
  · rintro rfl i _
    simp

theorem run_equalIn_bytes (d : Nat) (t e : TypeId) (n : Nat) (i : TypeInfo) (ht : P.underlying t = some (.array n e)) (hi : P.info? e = some i) (hc : P.cellsOf e = 1) (he : P.underlying e = some (.int .u8)) (ha : ∀ w, (isAgg e).run P w = .ok false w)
    (x y : List Nat) (hx : x.length = n) (hy : y.length = n) (w : World) : (Op.equalIn (d + 2) t (.agg (u8s x)) (.agg (u8s y))).run P w = .ok (decide (x = y)) w := by
  rw [run_equalIn_array w (d + 1) _ _ ht hi, hc, run_eqItems_bytes d e he ha x y w _ (fun i hi => by simp at hi; omega), all_range x y n hx hy]
theorem run_eql_bytes (t e : TypeId) (n : Nat) (i : TypeInfo) (ht : P.underlying t = some (.array n e)) (hi : P.info? e = some i) (hc : P.cellsOf e = 1) (he : P.underlying e = some (.int .u8)) (ha : ∀ w, (isAgg e).run P w = .ok false w)
    (x y : List Nat) (hx : x.length = n) (hy : y.length = n) (w : World) : (binOp .eql t (.agg (u8s x)) (.agg (u8s y))).run P w = .ok (.bool (decide (x = y))) w := by
  rw [run_eql_struct, run_equalIn_bytes 9998 t e n i ht hi hc he ha x y hx hy w]
  rfl
end

/-- A sum. -/
structure Sm where
  l : List Nat
  len : l.length = 32
  lt : ∀ b ∈ l, b < 256
  deriving DecidableEq
theorem Sm.ext_l {a b : Sm} (h : a.l = b.l) : a = b := by cases a; cases b; cases h; rfl
def Sm.zero : Sm := ⟨List.replicate 32 0, by decide, by decide⟩
instance : Inhabited Sm := ⟨Sm.zero⟩
def Sm.enc (s : Sm) : List Value := s.l.map bv
theorem Sm.get_lt (s : Sm) (j : Nat) : s.l.getD j 0 < 256 := by
  by_cases h : j < s.l.length
  · simp only [List.getD, List.getElem?_eq_getElem h, Option.getD_some]; exact s.lt _ (List.getElem_mem _)
  · simp [List.getD, List.getElem?_eq_none (by omega : s.l.length ≤ j)]
end Go.Proofs.Ytkdkmnemmenikaa

/- Regions by types: slices, sums: what is read out of them; what is appended; steps behind a region's head. -/
namespace Go.Proofs.Ytkdkmnemmenikaa
open Go.RowKit

/-- An operand is of type τ: Γ says so, or it is a letter of which that was known in w0. -/
def Has (w0 : World) (Γ : Ctx) (x : Operand) (τ : Ty) : Prop := ∃ σ, OpT Γ x σ ∧ ∀ w v, Below w0.heap.size w0 w → σ.p w v → τ.p w v
theorem Has.t {w0 : World} {Γ : Ctx} {x : Operand} {τ : Ty} (h : OpT Γ x τ) : Has w0 Γ x τ := ⟨τ, h, fun _ _ _ h => h⟩
theorem Has.l {w0 : World} {Γ : Ctx} {x : Operand} {τ : Ty} {v : Value} (h : OpT Γ x (Ty.ex v)) (hv : τ.p w0 v) : Has w0 Γ x τ := ⟨_, h, fun w u hb e => by have e : u = v := e; subst e; exact τ.below hv hb⟩
theorem Has.see {w0 w : World} {Γ : Ctx} {x : Operand} {τ : Ty} {o : Oper} {a : Act} (h : Has w0 Γ x τ) (hs : SeesO Γ o a w) (hx : x ∈ o.op.operands.toList) (hb : Below w0.heap.size w0 w) : ∃ v, a.eval x = v ∧ τ.p w v := by
  obtain ⟨σ, h1, h2⟩ := h
  obtain ⟨v, h3, h4⟩ := hs x σ hx h1
  exact ⟨v, h3, h2 w v hb h4⟩

/-- A slice of n elements, its memory of type e, that reads xs. -/
def SlP (w : World) (e : TypeId) (v : Value) (n : Nat) (xs : List Value) : Prop :=
  ∃ A c, v = .slice A n c ∧ n ≤ c ∧ c ≤ maxLen ∧ (A = none → n = 0 ∧ c = 0) ∧ ∀ (j : Nat) (u : Value), xs[j]? = some u → ∃ g off cs fr, A = some ⟨g, off, none⟩ ∧ w.heap[g]? = some (.cells cs e fr) ∧ cs[off + j]? = some u
theorem keeps_block {w w' : World} {S : List Nat} (k : Keeps S w w') {el : TypeId → Bool} (hA : Apart w S el) {g : Nat} {cs : Array Value} {e : TypeId} {fr : Nat × Nat} (hg : w.heap[g]? = some (.cells cs e fr)) (he : el e = true) : w'.heap[g]? = some (.cells cs e fr) := by
  have hl : g < w.heap.size := (Array.getElem?_eq_some_iff.1 hg).1
  rw [k.block g hl (fun hm => ?_)]
  · exact hg
  · obtain ⟨cs', t, fr', h1, h2⟩ := hA g hm hl
    rw [hg] at h1
    simp only [Option.some.injEq, Obj.cells.injEq] at h1
    rw [← h1.2.1, he] at h2
    cases h2
def Ty.sl (e : TypeId) (n : Nat) (xs : List Value) : Ty := ⟨fun w v => SlP w e v n xs, fun t => t == e, fun ⟨A, c, h1, h2, h3, h4, h5⟩ k hA => ⟨A, c, h1, h2, h3, h4, fun j u hu =>
  let ⟨g, off, cs, fr, h6, h7, h8⟩ := h5 j u hu; ⟨g, off, cs, fr, h6, keeps_block k hA h7 (by simp), h8⟩⟩⟩
theorem Ty.sl_isSl (e : TypeId) (n : Nat) (xs : List Value) : IsSl (Ty.sl e n xs) n := fun _ _ ⟨A, c, h, _⟩ => ⟨A, c, h⟩
theorem SlP.rd {w : World} {e : TypeId} {A : Option Addr} {n c : Nat} {xs : List Value} (h : SlP w e (.slice A n c) n xs) : Rd w A xs := fun j u hu => by
  obtain ⟨A', c', h1, _, _, _, h5⟩ := h
  injection h1 with h1 _ h2
  subst h1
  obtain ⟨g, off, cs, fr, rfl, h6, h7⟩ := h5 j u hu
  exact ⟨_, rfl, by rw [Addr.add_lit, cell_of_row w g (off + j) cs e fr h6]; exact h7⟩
/-- A slice whose memory is of a type unknown. -/
def Ty.rd (n : Nat) (xs : List Value) : Ty := ⟨fun w v => ∃ A c, v = .slice A n c ∧ n ≤ maxLen ∧ (A = none → n = 0) ∧ Rd w A xs, fun _ => true, fun {w w' v S} h k hA => by
  obtain ⟨A, c, h1, h2, h3, h4⟩ := h
  refine ⟨A, c, h1, h2, h3, fun j u hu => ?_⟩
  obtain ⟨ad, rfl, hc⟩ := h4 j u hu
  have hl := World.block_lt_of_cell? w _ hc
  refine ⟨ad, rfl, (World.cell?_of_block (w := w) (k.block _ hl (fun hm => ?_))).trans hc⟩
  obtain ⟨_, _, _, _, h⟩ := hA _ hm hl
  cases h⟩
/-- A segment, by its blocks' age. -/
theorem Seg.sl {w : World} {e : TypeId} {sz n : Nat} {v : Value} {xs : List Value} {S : List Nat} (h : Seg w e sz v n xs S) : SlP w e v n xs := by
  rcases h with ⟨hl, ⟨rfl, rfl, rfl⟩ | ⟨g, off, cap, cs, rfl, rfl, hb, hs, hn, hm, hx⟩⟩
  · have : xs = [] := List.eq_nil_of_length_eq_zero (by simpa using hl)
    subst this
    refine ⟨none, 0, rfl, Nat.le_refl _, by simp [maxLen], fun _ => ⟨rfl, rfl⟩, fun j u hu => ?_⟩
    simp at hu
  · refine ⟨_, cap, rfl, hn, hm, fun h => (by cases h), fun j u hu => ⟨g, off, cs, (0, 0), rfl, hb, ?_⟩⟩
    have hj : j < n * sz := by rw [← hl]; exact (List.getElem?_eq_some_iff.1 hu).1
    rw [hx j hj, hu]
/-- Cells that are read from an address on. -/
def Ty.at_ (e : TypeId) (xs : List Value) : Ty := ⟨fun w v => ∃ g off cs fr, v = .pointer (some ⟨g, off, none⟩) ∧ w.heap[g]? = some (.cells cs e fr) ∧ ∀ (j : Nat) (u : Value), xs[j]? = some u → cs[off + j]? = some u, fun t => t == e,
  fun ⟨g, off, cs, fr, h1, h2, h3⟩ k hA => ⟨g, off, cs, fr, h1, keeps_block k hA h2 (by simp), h3⟩⟩
section
variable {P : Program} {w0 : World} {Γ : Ctx} {o : Oper} {V : Ty}
theorem cLenH {x : Operand} {τ : Ty} {n : Nat} {t : TypeId} {d : TypeId} (ho : o.op = .call { callee := .builtin .len, args := #[x], argTypes := #[t] }) (hx : Has w0 Γ x τ) (hl : IsSl τ n) (hu : P.underlying t = some (.slice d)) : OpOk P w0 Γ o (Ty.ex (.int .i64 (n : Int))) :=
  .val fun a w hb hs => by
    obtain ⟨v, h1, h2⟩ := hx.see hs (by simp [ho, Op.operands, Call.operands]) hb
    obtain ⟨A, c, rfl⟩ := hl w v h2
    refine ⟨_, rfl, ?_⟩
    unfold execOp
    simp [ho, h1, resolve, invoke, builtin, Builtin.len_, run_underlying hu, goInt]
theorem cIndexS {t e : TypeId} {x ix : Operand} {n k sz : Nat} {kd : IntKind} {xs : List Value} (ho : o.op = .indexAddr t x ix) (hx : Has w0 Γ x (Ty.sl e n xs)) (hi : OpT Γ ix (Ty.ex (.int kd (k : Int)))) (hu : P.underlying t = some (.slice e)) (hz : (P.info? e).map (·.size) = some sz) (hk : k < n) (hne : k * sz < xs.length) : OpOk P w0 Γ o (Ty.at_ e (xs.drop (k * sz))) :=
  .val fun a w hb hs => by
    obtain ⟨v, h1, A, c, rfl, h2, h3, h4, h4'⟩ := hx.see hs (by simp [ho, Op.operands]) hb
    obtain ⟨i, h5, h6⟩ := hs ix _ (by simp [ho, Op.operands]) hi
    have h6 : i = .int kd (k : Int) := h6
    obtain ⟨g, off, cs, fr, rfl, h7, h8⟩ := h4' (k * sz) _ (List.getElem?_eq_getElem hne)
    obtain ⟨inf, hinf, hsz⟩ := Option.map_eq_some_iff.1 hz
    refine ⟨_, ⟨g, off + k * sz, cs, fr, rfl, h7, fun j u hu => ?_⟩, ?_⟩
    · rw [List.getElem?_drop] at hu
      obtain ⟨g', off', cs', fr', e1, h9, h10⟩ := h4' _ u hu
      injection e1 with e1
      injection e1 with e1 e2
      subst e1 e2
      rw [h7] at h9
      injection h9 with h9
      injection h9 with h9
      subst h9
      rw [Nat.add_assoc]
      exact h10
    · unfold execOp
      simp [ho, h1, h5, h6, Instr.indexAt, asIntOf, run_underlying hu, hk, sizeOf, typeInfo, hinf, hsz, Addr.add_lit]
/-- Loads. -/
theorem run_loadVar_rd {w : World} {ty : TypeId} {ad : Addr} {xs : List Value} {d : TypeDesc} (h : Rd w (some ad) xs)
    (hu : P.underlying ty = some d) (hd : (match d with | .struct _ | .array _ _ => true | _ => false) = true) (hi : (P.info? ty).map (·.size) = some xs.length) : (loadVar ty ad).run P w = .ok (.agg xs.toArray) w := by
  have hl := run_loadCells_list (P := P) w ad xs (fun j v hv => by
    obtain ⟨ad', e, hc⟩ := h j v hv
    injection e with e
    subst e
    exact hc)
  obtain ⟨inf, hinf, hsz⟩ := Option.map_eq_some_iff.1 hi
  have hagg : (isAgg ty).run P w = .ok true w := by
    unfold isAgg
    rw [Sem.run_bind, run_underlying hu]
    cases d <;> simp at hd <;> rfl
  unfold loadVar
  rw [Sem.run_bind, hagg]
  simp [sizeOf, typeInfo, hinf, hsz, hl]
theorem run_loadVar_one {w : World} {ty : TypeId} {ad : Addr} {u : Value} {xs : List Value} {d : TypeDesc} (h : Rd w (some ad) (u :: xs))
    (hu : P.underlying ty = some d) (hd : (match d with | .struct _ | .array _ _ => true | _ => false) = false) : (loadVar ty ad).run P w = .ok u w := by
  obtain ⟨ad', e, hc⟩ := h 0 u rfl
  injection e with e
  subst e
  have hagg : (isAgg ty).run P w = .ok false w := by
    unfold isAgg
    rw [Sem.run_bind, run_underlying hu]
    cases d <;> simp at hd <;> rfl
  have hc' : w.cell? ad = some u := by simpa [Addr.add] using hc
  unfold loadVar
  rw [Sem.run_bind, hagg]
  simp [load, Sem.run, hc']
theorem at_rd {w : World} {e : TypeId} {v : Value} {xs : List Value} (h : (Ty.at_ e xs).p w v) : ∃ ad, v = .pointer (some ad) ∧ Rd w (some ad) xs := by
  obtain ⟨g, off, cs, fr, rfl, h1, h2⟩ := h
  exact ⟨_, rfl, fun j u hu => ⟨_, rfl, by rw [Addr.add_lit, cell_of_row w g (off + j) cs e fr h1]; exact h2 j u hu⟩⟩
/-- A type whose values point to cells that read xs. -/
def Pts (τ : Ty) (xs : List Value) : Prop := ∀ w v, τ.p w v → ∃ ad, v = .pointer (some ad) ∧ Rd w (some ad) xs
theorem pts_at (e : TypeId) (xs : List Value) : Pts (Ty.at_ e xs) xs := fun _ _ h => at_rd h
theorem cLoadK {ty : TypeId} {x : Operand} {τ : Ty} {k : Nat} {xs : List Value} {d : TypeDesc} (ho : o.op = .load ty x) (hx : Has w0 Γ x τ) (hp : Pts τ xs) (hu : P.underlying ty = some d) (hd : (match d with | .struct _ | .array _ _ => true | _ => false) = true) (hi : (P.info? ty).map (·.size) = some k) (hk : k ≤ xs.length) : OpOk P w0 Γ o (Ty.ex (.agg (xs.take k).toArray)) :=
  .val fun a w hb hs => by
    obtain ⟨v, h1, h2⟩ := hx.see hs (by simp [ho, Op.operands]) hb
    obtain ⟨ad, rfl, h3⟩ := hp w v h2
    refine ⟨_, rfl, ?_⟩
    have h4 := run_loadVar_rd (P := P) (h3.take k) hu hd (by rw [hi]; simp; omega)
    unfold execOp
    simp [ho, h1, Instr.loadAt, Instr.sureAddr, h4]
theorem cLoad1 {ty : TypeId} {x : Operand} {τ : Ty} {u : Value} {xs : List Value} {d : TypeDesc} (ho : o.op = .load ty x) (hx : Has w0 Γ x τ) (hp : Pts τ (u :: xs)) (hu : P.underlying ty = some d) (hd : (match d with | .struct _ | .array _ _ => true | _ => false) = false) : OpOk P w0 Γ o (Ty.ex u) :=
  .val fun a w hb hs => by
    obtain ⟨v, h1, h2⟩ := hx.see hs (by simp [ho, Op.operands]) hb
    obtain ⟨ad, rfl, h3⟩ := hp w v h2
    refine ⟨_, rfl, ?_⟩
    have h4 := run_loadVar_one (P := P) h3 hu hd
    unfold execOp
    simp [ho, h1, Instr.loadAt, Instr.sureAddr, h4]
end

/-! ### Rows of sums -/
theorem enc_len (x : Sm) : x.enc.length = 32 := by simp [Sm.enc, x.len]
section
variable {P : Program} {w0 : World} {Γ : Ctx} {o : Oper}
theorem cLoadSum {ty e d : TypeId} {x : Operand} {y : Sm} (ho : o.op = .load ty x) (hx : Has w0 Γ x (Ty.at_ e y.enc)) (hu : P.underlying ty = some (.array 32 d)) (hi : (P.info? ty).map (·.size) = some 32) : OpOk P w0 Γ o (Ty.ex (.agg (u8s y.l))) := by
  have h := cLoadK (P := P) ho hx (pts_at e y.enc) hu rfl hi (by rw [enc_len]; omega)
  rwa [List.take_of_length_le (by rw [enc_len]; omega)] at h
end

/-! ### Steps behind a region's head -/
/-- No word of Γ hangs on memory of type e. -/
def Ctx.free (Γ : Ctx) (e : TypeId) : Bool := Γ.all fun p => !p.2.el e
theorem Ctx.free_look {Γ : Ctx} {e : TypeId} (h : Γ.free e = true) {s : Nat} {τ : Ty} (hs : look Γ s = some τ) : τ.el e = false := by
  induction Γ with
  | nil => cases hs
  | cons p Γ ih =>
    unfold Ctx.free at h
    simp only [List.all_cons, Bool.and_eq_true, Bool.not_eq_true'] at h
    unfold look at hs
    cases hb : Nat.beq p.1 s with
    | true => rw [hb] at hs; simp only [cond_true] at hs; injection hs with hs; rw [← hs]; exact h.1
    | false => rw [hb] at hs; simp only [cond_false] at hs; exact ih h.2 hs
theorem Fr.free {N : Nat} {Γ : Ctx} {a : Act} {w w' : World} (h : Fr N Γ a w) {S : List Nat} (k : Keeps S w w') {e : TypeId} (hS : ∀ b ∈ S, b < w.heap.size → ∃ cs fr, w.heap[b]? = some (.cells cs e fr)) (hf : Γ.free e = true) : Fr N Γ a w' :=
  h.keeps k fun _ _ hs b hb hl => let ⟨cs, fr, h1⟩ := hS b hb hl; ⟨cs, e, fr, h1, Ctx.free_look hf hs⟩
theorem below_own {w wr w' : World} {S : List Nat} (hB : Below w.heap.size w wr) (hk : Keeps S wr w') (hS : ∀ y ∈ S, w.heap.size ≤ y) : Below w.heap.size w w' := ((Keeps.of_below (S := []) hB).trans' hk fun x hx => .inr (hS x hx)).below
theorem u8s_list (l : List Nat) : (u8s l).toList = l.map bv := by simp [u8s]
section
variable {K : Act → World → Prop} {Q : Exit → Act → World → Prop} {a : Act} {w : World} {id j : Nat}
theorem nThen (h : K a w) : Exit.then K Q .normal a w := h
theorem nBlk (h : Q .normal a w) : Exit.inBlock id Q .normal a w := h
theorem xThen (h : Q (.exit id) a w) : Exit.then K Q (.exit id) a w := h
theorem xHere (h : Q .normal a w) : Exit.inBlock id Q (.exit id) a w := by simp only [Exit.inBlock, if_true]; exact h
end
/-- Some slots alone. -/
def pick (Γ : Ctx) : List Nat → Ctx
  | [] => []
  | s :: ss => match look Γ s with | some τ => (s, τ) :: pick Γ ss | none => pick Γ ss
theorem Fr.keep {N : Nat} {Γ : Ctx} {a : Act} {w : World} (h : Fr N Γ a w) : ∀ ss : List Nat, Fr N (pick Γ ss) a w
  | [] => h.nil
  | s :: ss => by
    unfold pick
    cases hs : look Γ s with
    | none => exact h.keep ss
    | some τ => exact h.too (h.keep ss) hs
section
variable {P : Program} {ops : Array Oper} {Q : Exit → Act → World → Prop} {rest : List Oper} {o : Oper} {a : Act} {w : World} {N : Nat} {Γ : Ctx}
/-- A line. -/
theorem tlOp {d : Nat} {V : Ty} (hF : Fr N Γ a w) (hg : o.guard = none) (hd : o.dst = some d) (hN : decide (d < N) = true) (h : OpOk P w Γ o V) (hk : ∀ a' w', Fr N ((d, V) :: Γ) a' w' → Below w.heap.size w w' → wpList P ops Q rest a' w') : wpList P ops Q (o :: rest) a w :=
  wpList_plain hg fun K hK => h a w K Q (Below.refl _ _) (fun s τ _ hs => hF.val s τ hs) fun v w' hv hb => by
    rw [hd]
    exact hK _ _ (hk _ _ (hF.put (of_decide_eq_true hN) hb hv) hb)
end
/-- A slice written out: its memory is new. -/
theorem cBuildSl {P : Program} {w0 : World} {Γ : Ctx} {o : Oper} {t e : TypeId} {n : Nat} {parts : Array (Nat × Operand)} {vals : Array (Nat × Value)} {cs : Array Value} (ho : o.op = .buildSlice t n parts) (hp : ∀ (a : Act) (w : World), SeesO Γ o a w → (parts.map fun (i, x) => (i, a.eval x)) = vals)
    (hn : n ≤ maxLen) (hr : ∀ w : World, (Instr.buildSlice t n vals).run P w = .ok (.slice (some ⟨w.heap.size, 0, none⟩) n n) (w.alloc (.cells cs e))) : OpOk P w0 Γ o (Ty.sl e n cs.toList) :=
  .new fun a w _ hs => by
    refine ⟨.slice (some ⟨w.heap.size, 0, none⟩) n n, _, ?_, ((Keeps.refl [] w).alloc (.cells cs e)).below, ?_⟩
    · exact ⟨_, n, rfl, Nat.le_refl _, hn, fun h => (by cases h), fun j u hu => ⟨w.heap.size, 0, cs, (0, 0), rfl, heap_alloc_new w _, by rw [Nat.zero_add]; simpa using hu⟩⟩
    · have h1 := hp a w hs
      have h2 := hr w
      unfold execOp
      simp only [ho]
      rw [h1, Sem.run_bind, h2]
      rfl
end Go.Proofs.Ytkdkmnemmenikaa

/- Regions by types: slices written out; slices whose cells are told by types. -/
namespace Go.Proofs.Ytkdkmnemmenikaa
open Go.RowKit

theorem foldl_splice (l : List Value) : ∀ (k off : Nat) (cs : Array Value), (l.zipIdx k).foldl (fun cs (p : Value × Nat) => cs.setIfInBounds (off + p.2) p.1) cs = splice cs (off + k) l := by
  induction l with
  | nil => intro k off cs; rfl
  | cons v l ih =>
    intro k off cs
    rw [List.zipIdx_cons, List.foldl_cons, ih (k + 1) off, splice, Nat.add_assoc]
theorem fill_all (sz : Nat) : ∀ (vs : List Value) (k : Nat) (cells : Array Value), (∀ v ∈ vs, v.cells.size = sz) → cells.size = (k + vs.length) * sz →
    ∃ R : Array Value, Instr.fill (fun i => some (i * sz, sz)) cells ((vs.zipIdx k).map fun p => (p.2, p.1)) = some R ∧ R.toList = cells.toList.take (k * sz) ++ (vs.map fun v => v.cells.toList).flatten
  | [], k, cells, _, hs => ⟨cells, rfl, by simp at hs ⊢; rw [List.take_of_length_le (by simp [hs])]⟩
  | v :: vs, k, cells, hv, hs => by
    have hvs := hv v (by simp)
    have hle : k * sz + sz ≤ cells.size := by
      rw [hs, ← Nat.succ_mul]
      exact Nat.mul_le_mul_right _ (by simp)
    have hfold : v.cells.zipIdx.foldl (fun cs (p : Value × Nat) => cs.setIfInBounds (k * sz + p.2) p.1) cells = splice cells (k * sz) v.cells.toList := by
      rw [← Array.foldl_toList, Array.toList_zipIdx, foldl_splice, Nat.add_zero]
    obtain ⟨R, h1, h2⟩ := fill_all sz vs (k + 1) (splice cells (k * sz) v.cells.toList) (fun u hu => hv u (by simp [hu])) (by rw [splice_size, hs, List.length_cons]; congr 1; omega)
    refine ⟨R, ?_, ?_⟩
    · rw [List.zipIdx_cons, List.map_cons]
      unfold Instr.fill
      simp only []
      rw [if_neg (by simp [hvs]; omega)]
      rw [← hfold] at h1
      exact h1
    · rw [h2, List.map_cons, List.flatten_cons, ← List.append_assoc]
      congr 1
      have hvl : v.cells.toList.length = sz := by simpa using hvs
      apply List.ext_getElem?
      intro j
      rw [List.getElem?_take, Array.getElem?_toList, splice_get _ _ _ _ (by rw [hvl]; exact hle), Nat.succ_mul]
      by_cases h3 : j < k * sz
      · rw [if_pos (by omega), if_neg (by omega), List.getElem?_append_left (by simp; omega), List.getElem?_take, if_pos h3]
        simp
      · rw [List.getElem?_append_right (by simp; omega)]
        have e : (List.take (k * sz) cells.toList).length = k * sz := by simp; omega
        rw [e]
        by_cases h4 : j < k * sz + sz
        · rw [if_pos h4, if_pos (by rw [hvl]; omega)]
        · rw [if_neg h4, List.getElem?_eq_none (by rw [hvl]; omega)]
/-- A slice written out. -/
theorem run_buildSlice {P : Program} {t e : TypeId} {z : Value} {sz bytes : Nat} (n : Nat) (vs : List Value) (hu : P.underlying t = some (.slice e)) (hi : (P.info? e).map (fun i => (i.zero, i.size, i.bytes)) = some (some z, sz, bytes))
    (hn : vs.length = n) (hv : ∀ v ∈ vs, v.cells.size = sz) (hbig : n * sz ≤ 16777216) (w : World) :
    (Instr.buildSlice t n ((vs.zipIdx).map fun p => (p.2, p.1)).toArray).run P w = .ok (.slice (some ⟨w.heap.size, 0, none⟩) n n) (w.alloc (.cells (vs.map fun v => v.cells.toList).flatten.toArray e)) := by
  obtain ⟨inf, hinf, hz, hsz, hby⟩ := info_parts hi
  have hsz2 : (Go.sizeOf e).run P w = .ok sz w := by simp [sizeOf, typeInfo, hinf, hsz]
  have hzero : (zeroValue e).run P w = .ok z w := by simp [zeroValue, typeInfo, hinf, hz]
  have key : ∀ zs : Array Value, ∃ R : Array Value, Instr.fill (fun i => some (i * sz, sz)) ((Array.range (n * sz)).map (zs[· % zs.size]!)) (((vs.zipIdx).map fun p => (p.2, p.1)).toArray).toList = some R ∧ R = (vs.map fun v => v.cells.toList).flatten.toArray := fun zs => by
    obtain ⟨R, h1, h2⟩ := fill_all sz vs 0 ((Array.range (n * sz)).map (zs[· % zs.size]!)) hv (by simp [hn])
    exact ⟨R, h1, Array.toList_inj.1 (by rw [h2]; simp)⟩
  unfold Instr.buildSlice
  rw [Sem.run_bind, run_underlying hu]
  simp only [Result.andThen_ok]
  rw [Sem.run_bind, hsz2]
  simp only [Result.andThen_ok]
  rw [if_neg (by omega)]
  by_cases h0 : n * sz = 0
  · obtain ⟨R, h1, rfl⟩ := key #[]
    rw [if_pos h0]
    simp only [pure_bind]
    rw [h1]
    rfl
  · obtain ⟨R, h1, rfl⟩ := key z.cells
    rw [if_neg h0, Sem.run_bind, hzero]
    simp only [Result.andThen_ok, pure_bind]
    rw [h1]
    rfl
/-- A slice of known values. -/
theorem cBuildV {P : Program} {w0 : World} {Γ : Ctx} {o : Oper} {t e : TypeId} {z : Value} {sz bytes : Nat} {n : Nat} {parts : Array (Nat × Operand)} {vs : List Value} (ho : o.op = .buildSlice t n parts) (hp : ∀ (a : Act) (w : World), SeesO Γ o a w → (parts.map fun (i, x) => (i, a.eval x)) = (vs.zipIdx.map fun p => (p.2, p.1)).toArray)
    (hu : P.underlying t = some (.slice e)) (hi : (P.info? e).map (fun i => (i.zero, i.size, i.bytes)) = some (some z, sz, bytes)) (hn : vs.length = n) (hv : ∀ v ∈ vs, v.cells.size = sz) (hbig : n * sz ≤ 16777216) (hm : n ≤ maxLen) :
    OpOk P w0 Γ o (Ty.sl e n (vs.map fun v => v.cells.toList).flatten) := by
  have h := cBuildSl (P := P) (w0 := w0) ho hp hm (fun w => run_buildSlice n vs hu hi hn hv hbig w)
  rwa [List.toList_toArray] at h
/-! ### Slices whose cells are told by types -/
def SlT (w : World) (e : TypeId) (v : Value) (n : Nat) (τs : List Ty) : Prop :=
  ∃ A c, v = .slice A n c ∧ n ≤ c ∧ c ≤ maxLen ∧ (A = none → n = 0 ∧ c = 0) ∧ ∀ (j : Nat) (τ : Ty), τs[j]? = some τ → ∃ g off cs fr u, A = some ⟨g, off, none⟩ ∧ w.heap[g]? = some (.cells cs e fr) ∧ cs[off + j]? = some u ∧ τ.p w u
def Ty.slT (e : TypeId) (n : Nat) (τs : List Ty) : Ty := ⟨fun w v => SlT w e v n τs, fun t => t == e || τs.any fun τ => τ.el t, fun {w w' v S} h k hA => by
  obtain ⟨A, c, h1, h2, h3, h4, h5⟩ := h
  refine ⟨A, c, h1, h2, h3, h4, fun j τ hj => ?_⟩
  obtain ⟨g, off, cs, fr, u, h6, h7, h8, h9⟩ := h5 j τ hj
  refine ⟨g, off, cs, fr, u, h6, keeps_block k hA h7 (by simp), h8, τ.st h9 k fun b hb hl => ?_⟩
  obtain ⟨cs', t, fr', h10, h11⟩ := hA b hb hl
  refine ⟨cs', t, fr', h10, ?_⟩
  simp only [Bool.or_eq_false_iff, List.any_eq_false] at h11
  simpa using h11.2 τ (List.mem_of_getElem? hj)⟩
theorem All2.length {w : World} : ∀ {vs : List Value} {τs : List Ty}, All2 w vs τs → vs.length = τs.length
  | [], [], _ => rfl
  | v :: vs, τ :: τs, h => by simp [All2.length h.2]
  | [], _ :: _, h => h.elim
  | _ :: _, [], h => h.elim
theorem cBuildT {P : Program} {w0 : World} {Γ : Ctx} {o : Oper} {t e : TypeId} {z : Value} {bytes n : Nat} {parts : Array (Nat × Operand)} {τs : List Ty} (ho : o.op = .buildSlice t n parts) (hp : ∀ (a : Act) (w : World), Below w0.heap.size w0 w → SeesO Γ o a w → ∃ vs : List Value, (parts.map fun (i, x) => (i, a.eval x)) = (vs.zipIdx.map fun p => (p.2, p.1)).toArray ∧ All2 w vs τs ∧ ∀ v ∈ vs, v.cells = #[v])
    (hu : P.underlying t = some (.slice e)) (hi : (P.info? e).map (fun i => (i.zero, i.size, i.bytes)) = some (some z, 1, bytes)) (hn : (decide (τs.length = n) && decide (n ≤ 1000)) = true) : OpOk P w0 Γ o (Ty.slT e n τs) :=
  .new fun a w hb hs => by
    simp only [Bool.and_eq_true, decide_eq_true_eq] at hn
    obtain ⟨vs, h1, h2, h3⟩ := hp a w hb hs
    have hl : vs.length = n := h2.length.trans hn.1
    have hr := run_buildSlice (P := P) n vs hu hi hl (fun v hv => by rw [h3 v hv]; rfl) (by omega) w
    have hf : (vs.map fun v => v.cells.toList).flatten = vs := by
      have : (vs.map fun v => v.cells.toList) = vs.map fun v => [v] := List.map_congr_left fun v hv => by rw [h3 v hv]
      rw [this, ← List.flatMap_def]
      simp
    rw [hf] at hr
    have hbl : Below w.heap.size w (w.alloc (.cells vs.toArray e)) := ((Keeps.refl [] w).alloc _).below
    refine ⟨.slice (some ⟨w.heap.size, 0, none⟩) n n, _, ?_, hbl, ?_⟩
    · refine ⟨_, n, rfl, Nat.le_refl _, by simp [maxLen]; omega, fun h => (by cases h), fun j τ hj => ?_⟩
      obtain ⟨u, h4, h5⟩ := h2.at_ hj
      exact ⟨w.heap.size, 0, vs.toArray, (0, 0), u, rfl, heap_alloc_new w _, by rw [Nat.zero_add]; simpa using h4, τ.below h5 hbl⟩
    · unfold execOp
      simp only [ho]
      rw [h1, Sem.run_bind, hr]
      rfl
theorem partsT1 {w0 : World} {Γ : Ctx} {o : Oper} {t : TypeId} {n m : Nat} {x : Operand} {τ : Ty} (ho : o.op = .buildSlice t n #[(0, x)]) (hx : Has w0 Γ x τ) (h1 : IsSl τ m) : ∀ (a : Act) (w : World), Below w0.heap.size w0 w → SeesO Γ o a w → ∃ vs : List Value, ((#[(0, x)] : Array (Nat × Operand)).map fun (i, x) => (i, a.eval x)) = (vs.zipIdx.map fun p => (p.2, p.1)).toArray ∧ All2 w vs [τ] ∧ ∀ v ∈ vs, v.cells = #[v] := fun a w hb hs => by
  obtain ⟨u, h2, h3⟩ := hx.see hs (by simp [ho, Op.operands]) hb
  obtain ⟨A, c, rfl⟩ := h1 w u h3
  exact ⟨[.slice A m c], by simp [h2], ⟨h3, trivial⟩, by simp [Value.cells]⟩
theorem partsT2 {w0 : World} {Γ : Ctx} {o : Oper} {t : TypeId} {n m m' : Nat} {x y : Operand} {τ σ : Ty} (ho : o.op = .buildSlice t n #[(0, x), (1, y)]) (hx : Has w0 Γ x τ) (hy : Has w0 Γ y σ) (h1 : IsSl τ m) (h1' : IsSl σ m') : ∀ (a : Act) (w : World), Below w0.heap.size w0 w → SeesO Γ o a w → ∃ vs : List Value, ((#[(0, x), (1, y)] : Array (Nat × Operand)).map fun (i, x) => (i, a.eval x)) = (vs.zipIdx.map fun p => (p.2, p.1)).toArray ∧ All2 w vs [τ, σ] ∧ ∀ v ∈ vs, v.cells = #[v] := fun a w hb hs => by
  obtain ⟨u, h2, h3⟩ := hx.see hs (by simp [ho, Op.operands]) hb
  obtain ⟨A, c, rfl⟩ := h1 w u h3
  obtain ⟨u', h4, h5⟩ := hy.see hs (by simp [ho, Op.operands]) hb
  obtain ⟨A', c', rfl⟩ := h1' w u' h5
  exact ⟨[.slice A m c, .slice A' m' c'], by simp [h2, h4], ⟨h3, h5, trivial⟩, by simp [Value.cells]⟩
end Go.Proofs.Ytkdkmnemmenikaa

/- Regions by types: boxes, arrays, slices of slices; calls by any readable slice; more ways of a walk. -/
namespace Go.Proofs.Ytkdkmnemmenikaa
open Go.RowKit

theorem Has.c {w0 : World} {Γ : Ctx} {x : Operand} {τ σ : Ty} (h : Has w0 Γ x τ) (hc : ∀ w v, τ.p w v → σ.p w v) : Has w0 Γ x σ :=
  let ⟨υ, h1, h2⟩ := h; ⟨υ, h1, fun w v hb hp => hc w v (h2 w v hb hp)⟩
/-- Values that are slices of n elements that read xs. -/
def Reads (τ : Ty) (n : Nat) (xs : List Value) : Prop := ∀ w v, τ.p w v → ∃ A c, v = .slice A n c ∧ n ≤ maxLen ∧ (A = none → n = 0) ∧ Rd w A xs
theorem reads_sl (e : TypeId) (n : Nat) (xs : List Value) : Reads (Ty.sl e n xs) n xs := fun w v h => by
  have h' := h
  obtain ⟨A, c, rfl, h2, h3, h4, _⟩ := h'
  exact ⟨A, c, rfl, Nat.le_trans h2 h3, fun e => (h4 e).1, SlP.rd h⟩
theorem Has.r {w0 : World} {Γ : Ctx} {x : Operand} {τ : Ty} {n : Nat} {xs : List Value} (h : OpT Γ x τ) (hr : Reads τ n xs) : Has w0 Γ x (Ty.rd n xs) := Has.c (.t h) hr

section
variable {P : Program} {w0 : World} {Γ : Ctx} {o : Oper}
/-- A value is laid into a new block. -/
theorem cBox {t : TypeId} {x : Operand} {v : Value} (ho : o.op = .box t x) (hx : OpT Γ x (Ty.ex v)) : OpOk P w0 Γ o (Ty.at_ t v.cells.toList) :=
  .new fun a w _ hs => by
    obtain ⟨u, h1, h2⟩ := hs x _ (by simp [ho, Op.operands]) hx
    have h2 : u = v := h2
    subst h2
    refine ⟨.pointer (some ⟨w.heap.size, 0, none⟩), _, ⟨w.heap.size, 0, u.cells, (0, 0), rfl, heap_alloc_new w _, fun j z hz => by rw [Nat.zero_add]; simpa using hz⟩, ((Keeps.refl [] w).alloc (.cells u.cells t)).below, ?_⟩
    unfold execOp
    simp only [ho, h1]
    simp [Instr.box, newVar, newRow, go_sem]
theorem cBoxSum {t : TypeId} {x : Operand} {y : Sm} (ho : o.op = .box t x) (hx : OpT Γ x (Ty.ex (.agg (u8s y.l)))) : OpOk P w0 Γ o (Ty.at_ t y.enc) := by
  have h := cBox (P := P) (w0 := w0) ho hx
  rwa [show (Value.agg (u8s y.l)).cells.toList = y.enc from u8s_list y.l] at h
/-- An array, as a slice. -/
theorem cSliceArr {t e ea : TypeId} {x : Operand} {n : Nat} {xs : List Value} (ho : o.op = .slice t x none none none) (hx : Has w0 Γ x (Ty.at_ e xs)) (hu : P.underlying t = some (.array n ea)) (hz : (P.info? ea).map (·.size) = some 1) (hn : n ≤ maxLen) : OpOk P w0 Γ o (Ty.sl e n xs) :=
  .val fun a w hb hs => by
    obtain ⟨v, h1, g, off, cs, fr, rfl, h2, h3⟩ := hx.see hs (by simp [ho, Op.operands]) hb
    obtain ⟨inf, hinf, hsz⟩ := Option.map_eq_some_iff.1 hz
    refine ⟨.slice (some ⟨g, off, none⟩) n n, ⟨_, n, rfl, Nat.le_refl _, hn, fun h => (by cases h), fun j u hu => ⟨g, off, cs, fr, rfl, h2, h3 j u hu⟩⟩, ?_⟩
    unfold execOp
    simp [ho, h1, Instr.sliceAt, Instr.sureAddr, Instr.sliceBounds, run_underlying hu, sizeOf, typeInfo, hinf, Addr.add_lit]
/-- Calls by what the arguments are in whatever later world. -/
theorem cCallH1 {f : FuncId} {ats : Array TypeId} {x : Operand} {τ ρ : Ty} (ho : o.op = .call { callee := .value (.func f), args := #[x], argTypes := ats }) (hx : Has w0 Γ x τ) (hc : Fn1 P f τ ρ) : OpOk P w0 Γ o ρ :=
  .call fun a w hb hs => by
    obtain ⟨v, h1, h2⟩ := hx.see hs (by simp [ho, Op.operands, Call.operands]) hb
    refine ⟨f, #[v], ?_, hc.ret w v h2⟩
    rw [exec_go a.eval ho rfl]
    simp only [List.map_toArray, List.map_cons, List.map_nil, h1]
    exact hc.en _ w
theorem cCallH2 {f : FuncId} {ats : Array TypeId} {x y : Operand} {τ σ ρ : Ty} (ho : o.op = .call { callee := .value (.func f), args := #[x, y], argTypes := ats }) (hx : Has w0 Γ x τ) (hy : Has w0 Γ y σ) (hc : Fn2 P f τ σ ρ) : OpOk P w0 Γ o ρ :=
  .call fun a w hb hs => by
    obtain ⟨v, h1, h2⟩ := hx.see hs (by simp [ho, Op.operands, Call.operands]) hb
    obtain ⟨u, h3, h4⟩ := hy.see hs (by simp [ho, Op.operands, Call.operands]) hb
    refine ⟨f, #[v, u], ?_, hc.ret w v u h2 h4⟩
    rw [exec_go a.eval ho rfl]
    simp only [List.map_toArray, List.map_cons, List.map_nil, h1, h3]
    exact hc.en _ w
end

section
variable {P : Program} {Γ : Ctx} {N : Nat} {a : Act} {w : World} {Q : Exit → Act → World → Prop}
end
end Go.Proofs.Ytkdkmnemmenikaa

/- Regions by types: rows of the call's own that are written: elements stored, rows cleared; calls that act. -/
namespace Go.Proofs.Ytkdkmnemmenikaa
open Go.RowKit

section
variable {w w' : World} {e : TypeId} {sz g off n cap : Nat} {xs : List Value}
/-- Cells written over the cells from k on. -/
def over (xs : List Value) (k : Nat) (vs : List Value) : List Value := xs.take k ++ vs ++ xs.drop (k + vs.length)
end
section
variable {P : Program} {w0 : World} {Γ : Ctx} {o : Oper}
end

section
variable {P : Program} {ops : Array Oper} {Q : Exit → Act → World → Prop} {rest : List Oper} {o : Oper} {a : Act} {w : World} {N : Nat} {Γ : Ctx}
end
section
variable {P : Program} {ops : Array Oper} {Q : Exit → Act → World → Prop} {rest : List Oper} {o : Oper} {a : Act} {w : World} {N : Nat} {Γ : Ctx}
end
end Go.Proofs.Ytkdkmnemmenikaa

/- Regions by types: calls through function values; shifts, conversions; closures. -/
namespace Go.Proofs.Ytkdkmnemmenikaa
open Go.RowKit

section
variable {P : Program} {w0 : World} {Γ : Ctx} {o : Oper}
section
variable {t t2 : TypeId} {x y : Operand} {k : IntKind} {m n : Int}
end
end
end Go.Proofs.Ytkdkmnemmenikaa

/- Regions by types: boxes, stores of whatever values. -/
namespace Go.Proofs.Ytkdkmnemmenikaa
open Go.RowKit

theorem blk_at {w : World} {g : Nat} {t : TypeId} {cs : Array Value} (h : Blk w g t cs) : (Ty.at_ t cs.toList).p w (.pointer (some ⟨g, 0, none⟩)) := ⟨g, 0, cs, (0, 0), rfl, h, fun j u hu => by rw [Nat.zero_add]; simpa using hu⟩
theorem run_alloc_i {P : Program} {t : TypeId} {z : Value} {sz b : Nat} (hi : (P.info? t).map (fun i => (i.zero, i.size, i.bytes)) = some (some z, sz, b)) (w : World) : (Instr.alloc t true (.tuple #[])).run P w = .ok (.pointer (some ⟨w.heap.size, 0, none⟩)) (w.alloc (.cells z.cells t)) := by
  obtain ⟨i, h1, h2⟩ := Option.map_eq_some_iff.1 hi
  simp only [Prod.mk.injEq] at h2
  simp [go_sem, zeroValue, typeInfo, h1, h2.1, newVar, newRow, Instr.alloc]
section
variable {P : Program} {w0 : World} {Γ : Ctx} {o : Oper}
theorem OpOk.b {b c : Bool} (h : OpOk P w0 Γ o (Ty.ex (.bool b))) (e : b = c) : OpOk P w0 Γ o (Ty.ex (.bool c)) := e ▸ h
end
section
variable {P : Program} {ops : Array Oper} {Q : Exit → Act → World → Prop} {rest : List Oper} {o : Oper} {a : Act} {w : World} {N : Nat} {Γ : Ctx}
theorem storeVar_cells (ty : TypeId) (ad : Addr) (v : Value) : storeVar ty ad v = storeVar ty ad (.agg v.cells) := rfl
/-- Whatever value is stored over a variable of the call's own. -/
theorem tlStoreV {ty t : TypeId} {p : Nat} {y : Operand} {g : Nat} {cs : Array Value} {v : Value} {Δ : Ctx} (hF : Fr N Γ a w) (hg : o.guard = none) (hd : o.dst = none) (ho : o.op = .store ty (.tmp p) y) (hp : look Γ p = some (Ty.ex (.pointer (some ⟨g, 0, none⟩)))) (hy : a.eval y = v)
    (hB : Blk w g t cs) (hcs : v.cells.size = cs.size) (hi : (P.info? ty).map (·.size) = some v.cells.size) (h1 : v.cells.all (·.oneCell') = true) (hΔ : Fr N Δ a w) (hfree : Δ.free t = true)
    (hk : ∀ w', Fr N Δ a w' → Blk w' g t v.cells → Keeps [g] w w' → wpList P ops Q rest a w') : wpList P ops Q (o :: rest) a w := by
  refine wpList_plain hg fun K hK => ?_
  unfold Oper.wp execOp
  simp only [ho, hF.getEx hp, hy, Instr.storeAt, Instr.sureAddr, Sem.run_bind, Sem.run_pure, Result.andThen_ok, storeVar_cells ty _ v, run_storeVar_mid w g 0 ty v.cells (hB.there (by omega)) hi h1]
  have h2 := hB.setCells v.cells.toList 0
  rw [splice_all _ _ (by simpa using hcs)] at h2
  have h3 : Keeps [g] w (w.setCells g 0 v.cells.toList) := Keeps.setCells (.inl (by simp)) _ _ (Keeps.refl _ _)
  refine hK _ _ ?_
  rw [hd]
  refine hk _ (hΔ.free h3 (fun b hb _ => ?_) hfree) (by simpa using h2) h3
  simp only [List.mem_singleton] at hb
  subst hb
  exact ⟨cs, (0, 0), hB⟩
end
end Go.Proofs.Ytkdkmnemmenikaa

/- Regions by types: known slots; small lines. -/
namespace Go.Proofs.Ytkdkmnemmenikaa
open Go.RowKit

section
variable {P : Program} {w0 : World} {Γ : Ctx} {o : Oper}
theorem cBuildP {t : TypeId} {parts : Array (Nat × Operand)} {vs : Array (Nat × Value)} {v : Value} (ho : o.op = .build t parts) (hp : ∀ (a : Act) (w : World), SeesO Γ o a w → (parts.map fun (i, x) => (i, a.eval x)) = vs) (hr : ∀ w : World, (Instr.build t vs).run P w = .ok v w) : OpOk P w0 Γ o (Ty.ex v) :=
  .val fun a w _ hs => ⟨v, rfl, by unfold execOp; simp only [ho, hp a w hs]; simp [hr w]⟩
end
end Go.Proofs.Ytkdkmnemmenikaa

/- Regions by types: memory of the call's own that an operation takes over (append in place; constants that are frozen): each such slot has blocks of its own, told apart from all others. -/
namespace Go.Proofs.Ytkdkmnemmenikaa
open Go.RowKit

/-- A type with the blocks that are its own. -/
structure OTy where
  τ : Ty
  q : World → Value → List Nat → Prop
  tyq : ∀ {w : World} {v : Value} {S : List Nat}, q w v S → τ.p w v
  st : ∀ {w w' : World} {v : Value} {S T : List Nat}, q w v S → Keeps T w w' → (∀ b ∈ S, b ∉ T) → q w' v S
  lt : ∀ {w : World} {v : Value} {S : List Nat}, q w v S → ∀ b ∈ S, b < w.heap.size
/-- Which slot an operation takes over. -/
def takes : List (Nat × Nat) → Nat → Option Nat
  | [], _ => none
  | p :: T, i => bif Nat.beq p.1 i then some p.2 else takes T i
section
variable {P : Program} {ops : Array Oper} {w0 : World} {Γ : Ctx} {o : Oper} {V U : OTy}
end

section
variable {P : Program} {w0 : World} {Γ : Ctx} {N n : Nat} {l : List Oper} {Vs : List OTy} {T : List (Nat × Nat)} {a0 : Act} {ops : Array Oper}
end

section
variable {P : Program} {w0 : World} {Γ : Ctx} {N : Nat} {Vs : List OTy} {a0 : Act}
end
/-! ### Lines -/
section
variable {P : Program} {w0 : World} {Γ : Ctx} {o : Oper}
end
end Go.Proofs.Ytkdkmnemmenikaa

/- Regions by types: []byte of a constant string: the row laid is then frozen. -/
namespace Go.Proofs.Ytkdkmnemmenikaa
open Go.RowKit

theorem freeze_block {w : World} {g k : Nat} {cs : Array Value} {e : TypeId} {fr : Nat × Nat} (h : w.heap[g]? = some (.cells cs e fr)) : Keeps [g] w (w.freeze ⟨g, k, none⟩ 1) ∧ ∃ fr', (w.freeze ⟨g, k, none⟩ 1).heap[g]? = some (.cells cs e fr') := by
  obtain ⟨lo, hi⟩ := fr
  unfold World.freeze
  rw [if_neg (by decide)]
  refine ⟨⟨rfl, rfl, rfl, by simp, fun j hj hjg => ?_⟩, if lo == hi then (k, k + 1) else (min lo k, max hi (k + 1)), ?_⟩
  · simp only [List.mem_singleton] at hjg
    simp only [Array.getElem?_modify]
    rw [if_neg (fun e => hjg e.symm)]
  · simp only [Array.getElem?_modify, if_true, h, Option.map_some]
section
variable {P : Program} {w0 : World} {Γ : Ctx} {o : Oper}
theorem run_freeze {w : World} {t e : TypeId} {g off n c : Nat} {cs : Array Value} {fr : Nat × Nat} (ht : P.underlying t = some (.slice e)) (he : P.underlying e = some (.int .u8)) (h : w.heap[g]? = some (.cells cs e fr)) : (convert t t (.slice (some ⟨g, off, none⟩) n c)).run P w = .ok (.slice (some ⟨g, off, none⟩) n c) (w.freeze ⟨g, cs.size, none⟩ 1) := by
  have hsh : w.shape? g = some (e, cs.size) := by
    unfold World.shape?
    rw [h]
  simp [convert, run_underlying ht, run_underlying he, markStringish, hsh]
end
end Go.Proofs.Ytkdkmnemmenikaa

/- Regions by types where constants are frozen: a step may change what is frozen of a block that the region made; all that the region's slots hold hangs on no frozenness. -/
namespace Go.Proofs.Ytkdkmnemmenikaa
open Go.RowKit

/-- Old blocks hold what they held, frozen or not. -/
def Soft (w w' : World) : Prop := w.heap.size ≤ w'.heap.size ∧ ∀ (g : Nat) (cs : Array Value) (e : TypeId) (fr : Nat × Nat), w.heap[g]? = some (.cells cs e fr) → ∃ fr', w'.heap[g]? = some (.cells cs e fr')
theorem Soft.of_below {w w' : World} (h : Below w.heap.size w w') : Soft w w' := ⟨h.size, fun g _ _ fr hg => ⟨fr, (h.block g (Array.getElem?_eq_some_iff.1 hg).1).trans hg⟩⟩
theorem Soft.freeze {w : World} {g k : Nat} {cs : Array Value} {e : TypeId} {fr : Nat × Nat} (h : w.heap[g]? = some (.cells cs e fr)) : Soft w (w.freeze ⟨g, k, none⟩ 1) := by
  obtain ⟨h1, fr', h2⟩ := freeze_block (k := k) h
  refine ⟨h1.size, fun j cs' e' f' hj => ?_⟩
  by_cases hjg : j = g
  · subst hjg
    rw [h] at hj
    injection hj with hj
    injection hj with e1 e2 e3
    subst e1 e2
    exact ⟨fr', h2⟩
  · exact ⟨f', (h1.block j (Array.getElem?_eq_some_iff.1 hj).1 (by simpa using hjg)).trans hj⟩
/-- A type that hangs on no frozenness. -/
def Fst (τ : Ty) : Prop := ∀ {w w' : World} {v : Value}, Soft w w' → τ.p w v → τ.p w' v
theorem Fst.ex (v : Value) : Fst (Ty.ex v) := fun _ h => h
theorem Fst.sl (e : TypeId) (n : Nat) (xs : List Value) : Fst (Ty.sl e n xs) := fun hs ⟨A, c, h1, h2, h3, h4, h5⟩ => ⟨A, c, h1, h2, h3, h4, fun j u hu => by
  obtain ⟨g, off, cs, fr, k1, k2, k3⟩ := h5 j u hu
  obtain ⟨fr', k4⟩ := hs.2 g cs e fr k2
  exact ⟨g, off, cs, fr', k1, k4, k3⟩⟩
theorem Fst.slT (e : TypeId) (n : Nat) (τs : List Ty) (h : ∀ τ ∈ τs, Fst τ) : Fst (Ty.slT e n τs) := fun hs ⟨A, c, h1, h2, h3, h4, h5⟩ => ⟨A, c, h1, h2, h3, h4, fun j τ hj => by
  obtain ⟨g, off, cs, fr, u, k1, k2, k3, k4⟩ := h5 j τ hj
  obtain ⟨fr', k5⟩ := hs.2 g cs e fr k2
  exact ⟨g, off, cs, fr', u, k1, k5, k3, h τ (List.mem_of_getElem? hj) hs k4⟩⟩
theorem Fst.at_ (e : TypeId) (xs : List Value) : Fst (Ty.at_ e xs) := fun hs ⟨g, off, cs, fr, h1, h2, h3⟩ => by
  obtain ⟨fr', k5⟩ := hs.2 g cs e fr h2
  exact ⟨g, off, cs, fr', h1, k5, h3⟩
/-- A slice in new memory of the region, frozen or not. -/
def Ty.nsl (w0 : World) (e : TypeId) (n : Nat) (xs : List Value) : Ty := ⟨fun w v => ∃ g off c cs fr, v = .slice (some ⟨g, off, none⟩) n c ∧ w0.heap.size ≤ g ∧ n ≤ c ∧ c ≤ maxLen ∧ w.heap[g]? = some (.cells cs e fr) ∧ ∀ (j : Nat) (u : Value), xs[j]? = some u → cs[off + j]? = some u, fun t => t == e, fun ⟨g, off, c, cs, fr, h1, h2, h3, h4, h5, h6⟩ k hA => ⟨g, off, c, cs, fr, h1, h2, h3, h4, keeps_block k hA h5 (by simp), h6⟩⟩
theorem Fst.nsl (w0 : World) (e : TypeId) (n : Nat) (xs : List Value) : Fst (Ty.nsl w0 e n xs) := fun hs ⟨g, off, c, cs, fr, h1, h2, h3, h4, h5, h6⟩ => by
  obtain ⟨fr', k⟩ := hs.2 g cs e fr h5
  exact ⟨g, off, c, cs, fr', h1, h2, h3, h4, k, h6⟩
theorem nsl_sl {w0 : World} {e : TypeId} {n : Nat} {xs : List Value} : ∀ w v, (Ty.nsl w0 e n xs).p w v → (Ty.sl e n xs).p w v := fun _ _ ⟨g, off, c, cs, fr, h1, _, h3, h4, h5, h6⟩ => ⟨_, c, h1, h3, h4, fun h => (by cases h), fun j u hu => ⟨g, off, cs, fr, rfl, h5, h6 j u hu⟩⟩
def OpF (P : Program) (w0 : World) (Γ : Ctx) (o : Oper) (V : Ty) : Prop :=
  ∀ (a : Act) (w : World) (K : Act → World → Prop) (Q : Exit → Act → World → Prop), Below w0.heap.size w0 w →
    (∀ (s : Nat) (τ : Ty), s ∈ Oper.reads o → look Γ s = some τ → ∃ v, a.tmps[s]? = some v ∧ τ.p w v) →
    (∀ v w', V.p w' v → Soft w w' → Below w0.heap.size w0 w' → K (a.put o.dst v) w') → o.wp P a w K Q
theorem OpF.of {P : Program} {w0 : World} {Γ : Ctx} {o : Oper} {V : Ty} (h : OpOk P w0 Γ o V) : OpF P w0 Γ o V := fun a w K Q hb hs hK => h a w K Q hb hs fun v w' h1 h2 => hK v w' h1 (Soft.of_below h2) (hb.trans (h2.mono hb.size))
inductive FactF (P : Program) (ops : Array Oper) (w0 : World) (Γ : Ctx) (o : Oper) (V : Ty) : Prop
  | run (hg : o.guard = none) (h : OpF P w0 Γ o V)
  | yes {j s : Nat} {b : Bool} (hg : o.guard = some (j, b)) (hj : slotOf ops j = some s) (hs : look Γ s = some (Ty.ex (.bool b))) (h : OpF P w0 Γ o V)
inductive LineF (P : Program) (ops : Array Oper) (w0 : World) : Ctx → List Oper → List Ty → Prop
  | nil {Γ : Ctx} : LineF P ops w0 Γ [] []
  | cons {Γ : Ctx} {d : Nat} {o : Oper} {V : Ty} {os : List Oper} {Vs : List Ty} (hd : o.dst = some d) (h : FactF P ops w0 Γ o V) (hf : Fst V) (t : LineF P ops w0 ((d, V) :: Γ) os Vs) : LineF P ops w0 Γ (o :: os) (V :: Vs)
section
variable {P : Program} {ops : Array Oper} {w0 : World} {Γ : Ctx} {o : Oper} {V : Ty}
theorem FactF.at_work (h : FactF P ops w0 Γ o V) {a : Act} {w : World} (hb : Below w0.heap.size w0 w) (hs : Sees ops Γ o a w) (K : Act → World → Prop) (Q : Exit → Act → World → Prop)
    (hK : ∀ v w', V.p w' v → Soft w w' → Below w0.heap.size w0 w' → K (a.put o.dst v) w') :
    if Region.wanted o (yielded ops a.tmps) then o.wp P a w K Q else K (a.put o.dst undef) w := by
  cases h with
  | run hg h =>
    rw [if_pos (by simp [Region.wanted, hg])]
    exact h a w K Q hb (fun s τ hr hl => hs s τ (reads_looksAt hr) hl) hK
  | @yes j s b hg hj hl h =>
    obtain ⟨v, hv, he⟩ := hs s _ (guard_looksAt hg hj) hl
    have he : v = .bool b := he
    subst he
    rw [if_pos (by simp [Region.wanted, hg, yielded_of hj hv])]
    exact h a w K Q hb (fun s τ hr hl => hs s τ (reads_looksAt hr) hl) hK
theorem LineF.fst {l : List Oper} {Vs : List Ty} (h : LineF P ops w0 Γ l Vs) : ∀ (i : Nat) (V : Ty), Vs[i]? = some V → Fst V := by
  induction h with
  | nil => intro i V h; simp at h
  | cons hd h hf t ih =>
    intro i V hi
    cases i with
    | zero => simp only [List.getElem?_cons_zero, Option.some.injEq] at hi; subst hi; exact hf
    | succ i => exact ih i V (by simpa using hi)
theorem LineF.at_ {l : List Oper} {Vs : List Ty} (h : LineF P ops w0 Γ l Vs) : ∀ (i : Nat) (o : Oper), l[i]? = some o → ∃ V Γi, Vs[i]? = some V ∧ FactF P ops w0 Γi o V ∧
    ∀ (s : Nat) (τ : Ty), look Γi s = some τ → (∃ (j : Nat) (oj : Oper), j < i ∧ l[j]? = some oj ∧ oj.dst = some s ∧ Vs[j]? = some τ) ∨ ((∀ (j : Nat) (oj : Oper), j < i → l[j]? = some oj → oj.dst ≠ some s) ∧ look Γ s = some τ) := by
  induction h with
  | nil => intro i o h; simp at h
  | @cons Γ d o V os Vs hd hF hfs t ih =>
    intro i o' ho'
    cases i with
    | zero =>
      simp only [List.getElem?_cons_zero, Option.some.injEq] at ho'
      subst ho'
      exact ⟨V, Γ, rfl, hF, fun s τ hl => .inr ⟨fun j oj hj => absurd hj (Nat.not_lt_zero _), hl⟩⟩
    | succ i =>
      simp only [List.getElem?_cons_succ] at ho'
      obtain ⟨V', Γi, h1, h2, h3⟩ := ih i o' ho'
      refine ⟨V', Γi, by simpa using h1, h2, fun s τ hl => ?_⟩
      rcases h3 s τ hl with ⟨j, oj, hj, hoj, hds, hVj⟩ | ⟨hno, hlk⟩
      · exact .inl ⟨j + 1, oj, by omega, by simpa using hoj, hds, by simpa using hVj⟩
      · by_cases hds : d = s
        · subst hds
          rw [look_same] at hlk
          injection hlk with hlk
          subst hlk
          exact .inl ⟨0, o, by omega, rfl, hd, rfl⟩
        · rw [look_ne _ _ hds] at hlk
          refine .inr ⟨fun j oj hj hoj => ?_, hlk⟩
          cases j with
          | zero =>
            simp only [List.getElem?_cons_zero, Option.some.injEq] at hoj
            subst hoj
            rw [hd]
            simpa using hds
          | succ j => exact hno j oj (by omega) (by simpa using hoj)
theorem LineF.ext_look {l : List Oper} {Vs : List Ty} (h : LineF P ops w0 Γ l Vs) : ∀ (s : Nat) (τ : Ty), look (ext Γ l Vs) s = some τ →
    (∃ (j : Nat) (oj : Oper), l[j]? = some oj ∧ oj.dst = some s ∧ Vs[j]? = some τ) ∨ ((∀ (j : Nat) (oj : Oper), l[j]? = some oj → oj.dst ≠ some s) ∧ look Γ s = some τ) := by
  induction h with
  | nil => intro s τ hl; exact .inr ⟨fun j oj h => by simp at h, hl⟩
  | @cons Γ d o V os Vs hd hF hfs t ih =>
    intro s τ hl
    have e : ext Γ (o :: os) (V :: Vs) = ext ((d, V) :: Γ) os Vs := by simp [ext, hd]
    rw [e] at hl
    rcases ih s τ hl with ⟨j, oj, hoj, hds, hVj⟩ | ⟨hno, hlk⟩
    · exact .inl ⟨j + 1, oj, by simpa using hoj, hds, by simpa using hVj⟩
    · by_cases hds : d = s
      · subst hds
        rw [look_same] at hlk
        injection hlk with hlk
        subst hlk
        exact .inl ⟨0, o, rfl, hd, rfl⟩
      · rw [look_ne _ _ hds] at hlk
        refine .inr ⟨fun j oj hoj => ?_, hlk⟩
        cases j with
        | zero =>
          simp only [List.getElem?_cons_zero, Option.some.injEq] at hoj
          subst hoj
          rw [hd]
          simpa using hds
        | succ j => exact hno j oj (by simpa using hoj)
end

structure TInvF (N n : Nat) (l : List Oper) (Vs : List Ty) (a0 : Act) (w0 : World) (listed : Array Bool) (a : Act) (w : World) : Prop where
  below : Below w0.heap.size w0 w
  defers : a.defers = []
  size : a.tmps.size = N
  out : ∀ s, (∀ (j : Nat) (oj : Oper), j < n → listed.getD j false = true → l[j]? = some oj → oj.dst ≠ some s) → a.tmps[s]? = a0.tmps[s]?
  vals : ∀ (j : Nat) (oj : Oper) (d : Nat) (V : Ty), j < n → listed.getD j false = true → l[j]? = some oj → oj.dst = some d → Vs[j]? = some V → ∃ v, a.tmps[d]? = some v ∧ V.p w v
section
variable {P : Program} {w0 : World} {Γ : Ctx} {N n : Nat} {l : List Oper} {Vs : List Ty} {a0 : Act} {ops : Array Oper}
theorem TInvF.start (hF : Fr N Γ a0 w0) {w : World} (hb : Below w0.heap.size w0 w) (m : Nat) : TInvF N n l Vs a0 w0 (Array.replicate m false) a0 w :=
  ⟨hb, hF.defers, hF.size, fun _ _ => rfl, fun j _ _ _ _ h => (by rw [getD_replicate_false] at h; cases h)⟩
theorem TInvF.step (hB : regB ops N n = true) (hl : ∀ i, i < n → l[i]? = ops[i]?) (hL : LineF P ops w0 Γ l Vs) (hF : Fr N Γ a0 w0) {listed : Array Bool} {a : Act} {w : World} (hI : TInvF N n l Vs a0 w0 listed a w)
    (hsz : listed.size = ops.size) (hcl : ∀ (j : Nat) (oj : Oper), ops[j]? = some oj → listed.getD j false = true → ∀ e ∈ oj.after, Region.binds .any e = true → listed.getD e.on false = true)
    {i : Nat} {o : Oper} (hi : i < n) (ho : ops[i]? = some o) (hun : listed.getD i false = false) (hdep : ∀ e ∈ o.after, Region.binds .any e = true → listed.getD e.on false = true) (K : Act → World → Prop) (Q : Exit → Act → World → Prop)
    (hK : ∀ a' w', TInvF N n l Vs a0 w0 (listed.setIfInBounds i true) a' w' → K a' w') :
    if Region.wanted o (yielded ops a.tmps) then o.wp P a w K Q else K (a.put o.dst undef) w := by
  have hli : l[i]? = some o := (hl i hi).trans ho
  obtain ⟨V, Γi, hV, hFa, hlk⟩ := hL.at_ i o hli
  obtain ⟨o', d, ho', hd, hdN, _, hoth⟩ := regB_at hB hi
  obtain rfl : o = o' := Option.some.inj (ho.symm.trans ho')
  have wf : ∀ {p q : Nat} {op : Oper}, ops[p]? = some op → Region.waitsFor .any ops p q = true → ∃ e ∈ op.after, Region.binds .any e = true ∧ e.on = q := fun {p q op} hp hw => by
    obtain ⟨oj, hoj, e, he, hb, hon⟩ := Region.waitsFor_spec hw
    obtain rfl : op = oj := Option.some.inj (hp.symm.trans hoj)
    exact ⟨e, he, hb, hon⟩
  have hsees : Sees ops Γi o a w := by
    intro s τ hs hls
    rcases hlk s τ hls with ⟨j, oj, hj, hoj, hds, hVj⟩ | ⟨hno, hl0⟩
    · have hjn : j < n := by omega
      have hoj' : ops[j]? = some oj := (hl j hjn).symm.trans hoj
      obtain ⟨oj2, dj, hoj2, hdj, _, _, hothj⟩ := regB_at hB hjn
      obtain rfl : oj = oj2 := Option.some.inj (hoj'.symm.trans hoj2)
      obtain rfl : dj = s := Option.some.inj (hdj.symm.trans hds)
      have h1 := ((hothj i o hi ho (by omega)).2 hs).1 hj
      obtain ⟨e, he, hb, hon⟩ := wf ho h1
      have h2 := hdep e he hb
      rw [hon] at h2
      obtain ⟨v, hv1, hv2⟩ := hI.vals j oj dj τ hjn h2 hoj hdj hVj
      exact ⟨v, hv1, hv2⟩
    · obtain ⟨v, hv1, hv2⟩ := hF.val s τ hl0
      refine ⟨v, ?_, τ.below hv2 hI.below⟩
      rw [hI.out s (fun k ok hk hlk' hok hdk => ?_)]
      · exact hv1
      · have hok' : ops[k]? = some ok := (hl k hk).symm.trans hok
        have hki : k ≠ i := fun h => by subst h; rw [hun] at hlk'; cases hlk'
        by_cases hlt : k < i
        · exact hno k ok hlt hok hdk
        · obtain ⟨ok2, dk, hok2, hdk2, _, _, hothk⟩ := regB_at hB hk
          obtain rfl : ok = ok2 := Option.some.inj (hok'.symm.trans hok2)
          obtain rfl : dk = s := Option.some.inj (hdk2.symm.trans hdk)
          have h1 := ((hothk i o hi ho (Ne.symm hki)).2 hs).2 (by omega)
          obtain ⟨e, he, hb, hon⟩ := wf hok' h1
          have h2 := hcl k ok hok' hlk' e he hb
          rw [hon, hun] at h2
          cases h2
  refine hFa.at_work hI.below hsees K Q (fun v w' hv hb hb0 => hK _ _ ?_)
  rw [hd]
  have hilt : i < listed.size := by rw [hsz]; exact (Array.getElem?_eq_some_iff.1 ho).1
  have hdne : ∀ (j : Nat) (oj : Oper) (dj : Nat), j < n → j ≠ i → l[j]? = some oj → oj.dst = some dj → d ≠ dj := fun j oj dj hj hne hoj hdj h => by
    subst h
    exact (hoth j oj hj ((hl j hj).symm.trans hoj) hne).1 hdj
  refine ⟨hb0, hI.defers, by simp only [Act.put]; simpa using hI.size, fun s hs => ?_, fun j oj dj Vj hj hlj hoj hdj hVj => ?_⟩
  · have hds : d ≠ s := fun h => hs i o hi (by simp [Array.getD, hilt]) hli (by rw [hd, h])
    simp only [Act.put]
    rw [Array.getElem?_setIfInBounds_ne hds]
    refine hI.out s (fun j oj hj hlj hoj => ?_)
    refine hs j oj hj ?_ hoj
    by_cases hij : i = j
    · subst hij; rw [hun] at hlj; cases hlj
    · rw [getD_set_ne false hij]; exact hlj
  · by_cases hij : i = j
    · subst hij
      obtain rfl : o = oj := Option.some.inj (hli.symm.trans hoj)
      obtain rfl : d = dj := Option.some.inj (hd.symm.trans hdj)
      obtain rfl : V = Vj := Option.some.inj (hV.symm.trans hVj)
      refine ⟨v, ?_, hv⟩
      simp only [Act.put]
      rw [Array.getElem?_setIfInBounds_self, if_pos (by rw [hI.size]; exact hdN)]
    · rw [getD_set_ne false hij] at hlj
      obtain ⟨u, h1, h2⟩ := hI.vals j oj dj Vj hj hlj hoj hdj hVj
      refine ⟨u, ?_, hL.fst j Vj hVj hb h2⟩
      simp only [Act.put]
      rw [Array.getElem?_setIfInBounds_ne (hdne j oj dj hj (Ne.symm hij) hoj hdj)]
      exact h1
theorem TInvF.all (hL : LineF P ops w0 Γ l Vs) (hn : n = l.length) (hF : Fr N Γ a0 w0) {listed : Array Bool} {a : Act} {w : World} (hI : TInvF N n l Vs a0 w0 listed a w) (hall : ∀ i, i < n → listed.getD i false = true) : Fr N (ext Γ l Vs) a w := by
  have lt : ∀ (j : Nat) (oj : Oper), l[j]? = some oj → j < n := fun j oj h => by rw [hn]; exact (List.getElem?_eq_some_iff.1 h).1
  refine ⟨hI.size, hI.defers, fun s τ hs => ?_⟩
  rcases hL.ext_look s τ hs with ⟨j, oj, hoj, hds, hVj⟩ | ⟨hno, hl0⟩
  · exact hI.vals j oj s τ (lt j oj hoj) (hall j (lt j oj hoj)) hoj hds hVj
  · obtain ⟨v, hv1, hv2⟩ := hF.val s τ hl0
    exact ⟨v, by rw [hI.out s (fun j oj _ _ hoj => hno j oj hoj)]; exact hv1, τ.below hv2 hI.below⟩
end
section
variable {P : Program} {w0 : World} {Γ : Ctx} {N : Nat} {Vs : List Ty} {a0 : Act}
/-- **A region by types.** Its first n operations are told by a derivation in the order of the text; the rest goes in the order of the text. -/
theorem region_fz {id : Nat} {Q : Exit → Act → World → Prop} {l : List Oper} {draw : Bool} (n : Nat) (hm : P.follows .mixedOrders = true) (hB : (regB l.toArray N n && tailB l.toArray n) = true) (hF : Fr N Γ a0 w0)
    (hL : LineF P l.toArray w0 Γ (l.take n) Vs)
    (hQ : ∀ a w, Fr N (ext Γ (l.take n) Vs) a w → Below w0.heap.size w0 w → wpList P l.toArray Q (l.drop n) a w) : (Code.region id l.toArray draw).wp P Q a0 w0 := by
  rw [Bool.and_eq_true] at hB
  obtain ⟨hB, hT⟩ := hB
  have hsize : l.toArray.size = l.length := by simp
  have hnl : n ≤ l.toArray.size := by
    unfold tailB at hT
    split at hT
    · rename_i h; simp at h; simp [h]
    · simp only [Bool.and_eq_true, decide_eq_true_eq] at hT; omega
  have hlen : n = (l.take n).length := by simp at hnl ⊢; omega
  have hli : ∀ i, i < n → (l.take n)[i]? = l.toArray[i]? := fun i hi => by simp [hi]
  have hback : ∀ i o, i < n → l.toArray[i]? = some o → ∀ e ∈ o.after, Region.binds .any e = true → e.on < i := fun i o hi ho e he hb => by
    obtain ⟨o', d, ho', _, _, h, _⟩ := regB_at hB hi
    obtain rfl : o = o' := Option.some.inj (ho.symm.trans ho')
    exact h e he hb
  have fin : ∀ (listed : Array Bool) a w, TInvF N n (l.take n) Vs a0 w0 listed a w → (∀ i, i < n → listed.getD i false = true) → wpList P l.toArray Q (l.drop n) a w := fun listed a w hI hall => by
    exact hQ a w (hI.all hL hlen hF hall) hI.below
  cases draw with
  | true =>
    have key : ∀ (f : Nat) (listed : Array Bool) (a : Act) (w : World), HeadInv .any l.toArray n listed → wanting n listed = f → TInvF N n (l.take n) Vs a0 w0 listed a w → wpAny P .any l.toArray Q (f + (l.toArray.size - n)) listed a w := by
      intro f
      induction f with
      | zero =>
        intro listed a w hH h0 hI
        have hall := wanting_zero h0
        have hdl : (l.drop n).length = l.toArray.size - n := by simp
        have e := all_listed hH hall hnl
        have hseq : Region.seqB .any l.toArray (l.toArray.size - n) n listed = true := by
          unfold tailB at hT
          split at hT
          · rename_i h
            have hz : n = l.toArray.size := by simpa using h
            have h2 : l.toArray.size - n = 0 := by omega
            rw [h2]
            simp only [Region.seqB, List.isEmpty_iff]
            unfold Region.ready
            rw [List.filter_eq_nil_iff]
            intro i hi
            have hi' := List.mem_range.1 hi
            have h3 := hall i (by omega)
            have hil : i < listed.size := by rw [hH.size]; exact hi'
            simp [Array.getD, hil] at h3 ⊢
            simp [h3]
          · simp only [Bool.and_eq_true] at hT
            rw [e]; exact hT.2
        have := wpAny_of_seq (md := .any) (Q' := Q) (l.drop n) n listed a w (fun j => by simp [List.getElem?_drop]) (by rw [hdl]; exact hseq) (fin listed a w hI hall)
        rw [Nat.zero_add]
        rwa [hdl] at this
      | succ f ih =>
        intro listed a w hH h0 hI
        rw [show f + 1 + (l.toArray.size - n) = (f + (l.toArray.size - n)) + 1 by omega]
        have hex : ∃ i, i < n ∧ listed.getD i true = false := by
          refine Classical.byContradiction fun hno => ?_
          have hz : wanting n listed = 0 := by
            unfold wanting
            rw [List.length_eq_zero_iff, List.filter_eq_nil_iff]
            intro i hi
            have hi' := List.mem_range.1 hi
            have hl : i < listed.size := by rw [hH.size]; omega
            have h1 : ¬ listed.getD i true = false := fun h => hno ⟨i, hi', h⟩
            simp [Array.getD, hl] at h1 ⊢
            exact h1
          omega
        obtain ⟨i0, hi0, hun0⟩ := hex
        refine ⟨fun hr => ?_, fun i hi => ?_⟩
        · exfalso
          have := ready_head hback hnl hH.size hr i0 hi0
          rw [getD_both hun0] at this
          cases this
        · obtain ⟨h1, o, ho, h2⟩ := mem_ready.1 hi
          have hin : i < n := Nat.lt_of_not_le fun h => by
            have hio := (Array.getElem?_eq_some_iff.1 ho).1
            unfold tailB at hT
            split at hT
            · rename_i h'; simp at h'; omega
            · simp only [Bool.and_eq_true, decide_eq_true_eq] at hT
              exact tail_waits hT.1.1.2 hT.1.2 hT.1.1.1 hH _ i0 rfl hi0 hun0 i h hi
          have hil : i < listed.size := by rw [hH.size]; omega
          have h3 := TInvF.step hB hli hL hF hI hH.size hH.closed hin ho (getD_both h1) h2 (wpAny P .any l.toArray Q (f + (l.toArray.size - n)) (listed.setIfInBounds i true)) Q (fun a' w' hI' => by
            refine ih _ a' w' (hH.set hi hin) ?_ hI'
            have := wanting_set hin hil (getD_both h1)
            omega)
          unfold wpOp
          simp only [ho]
          split
          · rename_i hw
            rw [if_pos hw] at h3
            exact .inl h3
          · rename_i hw
            rw [if_neg hw] at h3
            exact h3
    have inv0 : HeadInv .any l.toArray n (Array.replicate l.toArray.size false) :=
      ⟨by simp, fun j oj _ hl => (by rw [getD_replicate_false] at hl; cases hl), fun t _ ht => getD_in (by simpa using ht) (getD_replicate_false _ _)⟩
    have h0 : wanting n (Array.replicate l.toArray.size false) = n := by
      unfold wanting
      rw [List.filter_eq_self.2 (fun i _ => by rw [getD_replicate_false]; rfl), List.length_range]
    refine wp_region_any hm ?_
    have := key n _ a0 w0.drew inv0 h0 (TInvF.start hF (Below.refl _ _).drew _)
    rw [show n + (l.toArray.size - n) = l.toArray.size by omega] at this
    exact this
  | false =>
    have key : ∀ (f k : Nat) (a : Act) (w : World), k + f = n → TInvF N n (l.take n) Vs a0 w0 ((List.replicate k true ++ List.replicate (l.toArray.size - k) false).toArray) a w → wpList P l.toArray Q (l.drop k) a w := by
      intro f
      induction f with
      | zero =>
        intro k a w hk hI
        obtain rfl : k = n := by omega
        refine fin _ a w hI (fun i hi => ?_)
        simp [Array.getD, hi]
        omega
      | succ f ih =>
        intro k a w hk hI
        have hkn : k < n := by omega
        have hkl : k < l.length := by omega
        have hdrop : l.drop k = l[k] :: l.drop (k + 1) := by rw [List.drop_eq_getElem_cons hkl]
        have getD_k : ∀ m j, m ≤ l.toArray.size → (List.replicate m true ++ List.replicate (l.toArray.size - m) false).toArray.getD j false = decide (j < m) := fun m j hm => by
          by_cases hj : j < m
          · simp [Array.getD, hj]; omega
          · simp [Array.getD, List.getElem_append, hj]
        have ho : l.toArray[k]? = some l[k] := by simp [hkl]
        have hset : (List.replicate k true ++ List.replicate (l.toArray.size - k) false).toArray.setIfInBounds k true = (List.replicate (k + 1) true ++ List.replicate (l.toArray.size - (k + 1)) false).toArray := by
          apply Array.ext_getElem?
          intro j
          rw [show l.toArray.size - k = (l.toArray.size - (k + 1)) + 1 by omega, List.replicate_succ, List.replicate_succ']
          simp only [List.setIfInBounds_toArray, List.getElem?_toArray, List.append_assoc, List.singleton_append]
          rw [List.set_append_right _ _ (by simp)]
          simp
        rw [hdrop]
        refine wpList_step fun K hK => ?_
        refine TInvF.step hB hli hL hF hI (by simp; omega) (fun j oj hj hl e he hb => ?_) hkn ho (by rw [getD_k k k (by omega)]; simp) (fun e he hb => ?_) K Q (fun a' w' hI' => hK a' w' (ih (k + 1) a' w' (by omega) (by rw [← hset]; exact hI')))
        · rw [getD_k k _ (by omega)] at hl ⊢
          simp only [decide_eq_true_eq] at hl ⊢
          have := hback j oj (by omega) hj e he hb
          omega
        · rw [getD_k k _ (by omega)]
          simp only [decide_eq_true_eq]
          exact hback k _ hkn ho e he hb
    refine wp_region_lit ?_
    have := key n 0 a0 w0 (by omega) (by
      have e : (List.replicate 0 true ++ List.replicate (l.toArray.size - 0) false).toArray = Array.replicate l.toArray.size false := by simp
      rw [e]
      exact TInvF.start hF (Below.refl _ _) _)
    simpa using this
end
section
variable {P : Program} {w0 : World} {Γ : Ctx} {o : Oper}
/-- A slice laid in new memory; its freezing. -/
theorem cBuildN {t e : TypeId} {z : Value} {sz bytes n : Nat} {parts : Array (Nat × Operand)} {vs : List Value} (ho : o.op = .buildSlice t n parts) (hp : ∀ (a : Act) (w : World), SeesO Γ o a w → (parts.map fun (i, x) => (i, a.eval x)) = (vs.zipIdx.map fun p => (p.2, p.1)).toArray)
    (hu : P.underlying t = some (.slice e)) (hi : (P.info? e).map (fun i => (i.zero, i.size, i.bytes)) = some (some z, sz, bytes)) (hn : vs.length = n) (hv : ∀ v ∈ vs, v.cells.size = sz) (hbig : n * sz ≤ 16777216) (hm : n ≤ maxLen) : OpF P w0 Γ o (Ty.nsl w0 e n (vs.map fun v => v.cells.toList).flatten) :=
  fun a w K Q hb hs hK => by
    have hr := run_buildSlice (P := P) (t := t) n vs hu hi hn hv hbig w
    have h0 := hp a w (sees_of hs)
    unfold Oper.wp execOp
    simp only [ho]
    rw [h0, Sem.run_bind, hr]
    have hk : Below w.heap.size w (w.alloc (.cells (vs.map fun v => v.cells.toList).flatten.toArray e)) := ((Keeps.refl [] w).alloc _).below
    refine hK _ _ ⟨w.heap.size, 0, n, _, (0, 0), rfl, hb.size, Nat.le_refl _, hm, heap_alloc_new w _, fun j u hu => ?_⟩ (Soft.of_below hk) (hb.trans (hk.mono hb.size))
    rw [Nat.zero_add]
    simpa using hu
theorem cFreezeN {t e : TypeId} {s n : Nat} {xs : List Value} (ho : o.op = .convert t t (.tmp s)) (hs : look Γ s = some (Ty.nsl w0 e n xs)) (ht : P.underlying t = some (.slice e)) (he : P.underlying e = some (.int .u8)) : OpF P w0 Γ o (Ty.nsl w0 e n xs) :=
  fun a w K Q hb hsee hK => by
    obtain ⟨v, hv, g, off, c, cs, fr, rfl, h2, h3, h4, h5, h6⟩ := hsee s _ (by simp [Oper.reads, ho, Op.operands]) hs
    have h1 := run_freeze (P := P) (t := t) (off := off) (n := n) (c := c) ht he h5
    obtain ⟨k1, fr', k2⟩ := freeze_block (k := cs.size) h5
    have ea : a.eval (.tmp s) = .slice (some ⟨g, off, none⟩) n c := by simp [Act.eval, Array.getD_eq_getD_getElem?, hv]
    unfold Oper.wp execOp
    simp only [ho, ea, Sem.run_bind, h1, Result.andThen_ok, Sem.run_pure]
    refine hK _ _ ⟨g, off, c, cs, fr', rfl, h2, h3, h4, k2, h6⟩ (Soft.freeze h5) (below_own hb k1 (by intro y hy; simp only [List.mem_singleton] at hy; omega))
end
end Go.Proofs.Ytkdkmnemmenikaa

/- Words of thirty-two bits over naturals; SHA-256 as a plain function of lists of naturals. -/
namespace Go.Proofs.Ytkdkmnemmenikaa
open Go.RowKit

def x32 (a b : Nat) : Nat := (a ^^^ b) % 4294967296
def a32 (a b : Nat) : Nat := (a + b) % 4294967296
def n32 (a b : Nat) : Nat := (a &&& b) % 4294967296
def o32 (a b : Nat) : Nat := (a ||| b) % 4294967296
def c32 (a : Nat) : Nat := 4294967295 - a % 4294967296
def r32 (a n : Nat) : Nat := a / 2 ^ n
def l32 (a n : Nat) : Nat := a * 2 ^ n % 4294967296
def rot (a n : Nat) : Nat := o32 (l32 a (32 - n)) (r32 a n)

theorem ofInt32 (a : Nat) : (BitVec.ofInt 32 (a : Int)).toNat = a % 4294967296 := by
  rw [BitVec.ofInt_natCast, BitVec.toNat_ofNat]
theorem x32_eq (a b : Nat) : bits .xor .u32 (a : Int) (b : Int) = ((x32 a b : Nat) : Int) := by
  show IntKind.u32.wrap ((BitVec.ofInt 32 (a : Int) ^^^ BitVec.ofInt 32 (b : Int)).toNat : Int) = _
  rw [BitVec.toNat_xor, ofInt32, ofInt32, IntKind.wrap_u32']
  have h : a % 4294967296 ^^^ b % 4294967296 = (a ^^^ b) % 4294967296 := (Nat.xor_mod_two_pow (n := 32)).symm
  unfold x32
  rw [h]
  omega
theorem n32_eq (a b : Nat) : bits .and .u32 (a : Int) (b : Int) = ((n32 a b : Nat) : Int) := by
  show IntKind.u32.wrap ((BitVec.ofInt 32 (a : Int) &&& BitVec.ofInt 32 (b : Int)).toNat : Int) = _
  rw [BitVec.toNat_and, ofInt32, ofInt32, IntKind.wrap_u32']
  have h : a % 4294967296 &&& b % 4294967296 = (a &&& b) % 4294967296 := (Nat.and_mod_two_pow (n := 32)).symm
  unfold n32
  rw [h]
  omega
theorem o32_eq (a b : Nat) : bits .or .u32 (a : Int) (b : Int) = ((o32 a b : Nat) : Int) := by
  show IntKind.u32.wrap ((BitVec.ofInt 32 (a : Int) ||| BitVec.ofInt 32 (b : Int)).toNat : Int) = _
  rw [BitVec.toNat_or, ofInt32, ofInt32, IntKind.wrap_u32']
  have h : a % 4294967296 ||| b % 4294967296 = (a ||| b) % 4294967296 := (Nat.or_mod_two_pow (n := 32)).symm
  unfold o32
  rw [h]
  omega
theorem a32_eq (a b : Nat) : ((a : Int) + (b : Int)) % 4294967296 = ((a32 a b : Nat) : Int) := by
  unfold a32
  omega
theorem a32_eq' (a b : Nat) : IntKind.u32.wrap ((a : Int) + (b : Int)) = ((a32 a b : Nat) : Int) := by
  rw [IntKind.wrap_u32']
  exact a32_eq a b
theorem c32_eq (a : Nat) : bits .xor .u32 IntKind.u32.max (a : Int) = ((c32 a : Nat) : Int) := by
  show IntKind.u32.wrap ((BitVec.allOnes 32 ^^^ BitVec.ofInt 32 (a : Int)).toNat : Int) = _
  rw [BitVec.allOnes_xor, BitVec.toNat_not, ofInt32, IntKind.wrap_u32']
  unfold c32
  omega
theorem a32_e2 (x c k w u : Nat) : ((x : Int) + (c : Int) + (k : Int) + (w : Int) + (u : Int)) % 4294967296 = ((a32 (a32 (a32 (a32 x c) k) w) u : Nat) : Int) := by unfold a32; omega
theorem a32_e3 (d x c k w : Nat) : ((d : Int) + ((x : Int) + (c : Int) + (k : Int) + (w : Int))) % 4294967296 = ((a32 d (a32 (a32 (a32 x c) k) w) : Nat) : Int) := by unfold a32; omega
theorem r32_eq (n : Nat) (k : Int) (hk : ((2 ^ n : Nat) : Int) = k) (a : Nat) : (a : Int) / k = ((r32 a n : Nat) : Int) := by
  subst hk
  unfold r32
  rw [Int.natCast_ediv]
theorem l32_eq (n : Nat) (k : Int) (hk : ((2 ^ n : Nat) : Int) = k) (a : Nat) : (a : Int) * k % 4294967296 = ((l32 a n : Nat) : Int) := by
  subst hk
  unfold l32
  omega
theorem l32_eq' (n : Nat) (k : Int) (hk : ((2 ^ n : Nat) : Int) = k) (a : Nat) : IntKind.u32.wrap ((a : Int) * k) = ((l32 a n : Nat) : Int) := by
  rw [IntKind.wrap_u32']
  exact l32_eq n k hk a
theorem w32_byte {a : Nat} (h : a < 256) : IntKind.u32.wrap (a : Int) = (a : Int) := by rw [IntKind.wrap_u32']; omega
theorem add_pos (a : Addr) (n : Nat) (h : n ≠ 0) : a.add n = ⟨a.block, a.off + n, none⟩ := by unfold Addr.add; rw [if_neg h]
/-- Each round's own number. -/
def keysS : List Nat := [0x428a2f98, 0x71374491, 0xb5c0fbcf, 0xe9b5dba5, 0x3956c25b, 0x59f111f1, 0x923f82a4, 0xab1c5ed5, 0xd807aa98, 0x12835b01, 0x243185be, 0x550c7dc3, 0x72be5d74, 0x80deb1fe, 0x9bdc06a7, 0xc19bf174, 0xe49b69c1, 0xefbe4786, 0x0fc19dc6, 0x240ca1cc, 0x2de92c6f, 0x4a7484aa, 0x5cb0a9dc, 0x76f988da, 0x983e5152, 0xa831c66d, 0xb00327c8, 0xbf597fc7, 0xc6e00bf3, 0xd5a79147, 0x06ca6351, 0x14292967, 0x27b70a85, 0x2e1b2138, 0x4d2c6dfc, 0x53380d13, 0x650a7354, 0x766a0abb, 0x81c2c92e, 0x92722c85, 0xa2bfe8a1, 0xa81a664b, 0xc24b8b70, 0xc76c51a3, 0xd192e819, 0xd6990624, 0xf40e3585, 0x106aa070, 0x19a4c116, 0x1e376c08, 0x2748774c, 0x34b0bcb5, 0x391c0cb3, 0x4ed8aa4a, 0x5b9cca4f, 0x682e6ff3, 0x748f82ee, 0x78a5636f, 0x84c87814, 0x8cc70208, 0x90befffa, 0xa4506ceb, 0xbef9a3f7, 0xc67178f2]
def beginS : List Nat := [0x6a09e667, 0xbb67ae85, 0x3c6ef372, 0xa54ff53a, 0x510e527f, 0x9b05688c, 0x1f83d9ab, 0x5be0cd19]

/-- Four bytes as a word. -/
def word4 (a b c d : Nat) : Nat := o32 (o32 (o32 (l32 a 24) (l32 b 16)) (l32 c 8)) d
/-- A word of those before it. -/
def wordN (p a q c : Nat) : Nat := a32 (a32 (a32 p (x32 (x32 (rot a 7) (rot a 18)) (r32 a 3))) q) (x32 (x32 (rot c 17) (rot c 19)) (r32 c 10))
/-- The words of the first n rounds. -/
def wordsS (b : List Nat) : Nat → List Nat
  | 0 => []
  | n + 1 =>
    let w := wordsS b n
    w ++ [if n < 16 then word4 (b.getD (4 * n) 0) (b.getD (4 * n + 1) 0) (b.getD (4 * n + 2) 0) (b.getD (4 * n + 3) 0)
      else wordN (w.getD (n - 16) 0) (w.getD (n - 15) 0) (w.getD (n - 7) 0) (w.getD (n - 2) 0)]
theorem wordsS_len (b : List Nat) : ∀ n, (wordsS b n).length = n
  | 0 => rfl
  | n + 1 => by simp [wordsS, wordsS_len b n]

/-- The two sums of a round. -/
def sumE (e f g h k w : Nat) : Nat := a32 (a32 (a32 (a32 h (x32 (x32 (rot e 6) (rot e 11)) (rot e 25))) (x32 (n32 e f) (n32 (c32 e) g))) k) w
def sumA (a b c : Nat) : Nat := a32 (x32 (x32 (rot a 2) (rot a 13)) (rot a 22)) (x32 (x32 (n32 a b) (n32 a c)) (n32 b c))
def roundS (k w : Nat) : List Nat → List Nat
  | [a, b, c, d, e, f, g, h] => [a32 (sumE e f g h k w) (sumA a b c), a, b, c, a32 d (sumE e f g h k w), e, f, g]
  | v => v
/-- The state behind n rounds. -/
def roundsS (ws v : List Nat) : Nat → List Nat
  | 0 => v
  | n + 1 => roundS (keysS.getD n 0) (ws.getD n 0) (roundsS ws v n)
theorem roundS_len (k w : Nat) (v : List Nat) (h : v.length = 8) : (roundS k w v).length = 8 := by
  unfold roundS
  split
  · rfl
  · exact h
theorem roundsS_len (ws v : List Nat) (h : v.length = 8) : ∀ n, (roundsS ws v n).length = 8
  | 0 => h
  | n + 1 => roundS_len _ _ _ (roundsS_len ws v h n)
def blockS (h b : List Nat) : List Nat := List.zipWith a32 h (roundsS (wordsS b 64) h 64)
theorem blockS_len (h b : List Nat) (hl : h.length = 8) : (blockS h b).length = 8 := by
  unfold blockS
  rw [List.length_zipWith, roundsS_len _ _ hl, hl]
  rfl
def blocksS (h : List Nat) : Nat → List Nat → List Nat
  | 0, _ => h
  | n + 1, p => blocksS (blockS h (p.take 64)) n (p.drop 64)
theorem blocksS_len : ∀ (n : Nat) (h p : List Nat), h.length = 8 → (blocksS h n p).length = 8
  | 0, _, _, hl => hl
  | n + 1, h, _, hl => blocksS_len n _ _ (blockS_len h _ hl)
/-- How many noughts are laid behind. -/
def fillS (n : Nat) : Nat := (119 - n % 64) % 64
def lenS (n : Nat) : List Nat := [n / 72057594037927936 % 256, n / 281474976710656 % 256, n / 1099511627776 % 256, n / 4294967296 % 256, n / 16777216 % 256, n / 65536 % 256, n / 256 % 256, n % 256]
def padS (l : List Nat) : List Nat := l ++ [128] ++ List.replicate (fillS l.length) 0 ++ lenS (l.length * 8)
def bytes4 (x : Nat) : List Nat := [x / 16777216 % 256, x / 65536 % 256, x / 256 % 256, x % 256]
def shaL (l : List Nat) : List Nat := (blocksS beginS ((padS l).length / 64) (padS l)).flatMap bytes4
theorem flat4_len (l : List Nat) : (l.flatMap bytes4).length = 4 * l.length := by
  induction l with
  | nil => rfl
  | cons x l ih => rw [List.flatMap_cons, List.length_append, ih, List.length_cons]; simp only [bytes4, List.length_cons, List.length_nil]; omega
theorem shaL_len (l : List Nat) : (shaL l).length = 32 := by
  unfold shaL
  rw [flat4_len, blocksS_len _ _ _ (by rfl)]
theorem shaL_lt (l : List Nat) : ∀ x ∈ shaL l, x < 256 := by
  intro x hx
  obtain ⟨y, _, hy⟩ := List.mem_flatMap.1 hx
  simp only [bytes4, List.mem_cons, List.not_mem_nil, or_false] at hy
  omega
end Go.Proofs.Ytkdkmnemmenikaa

/- Walks: math/bits.RotateLeft32 and the reference's turned, at the widths in use. -/
namespace Go.Proofs.Ytkdkmnemmenikaa
open Go.RowKit

theorem rot2_any (x : Nat) (w : World) :
    Calls Try.prog 20 #[.int .u32 x, .int .i64 (-2)] w fun e w' => e = .returned (.int .u32 (rot x 2)) ∧ w = w' := by
  have h1 := o32_eq
  have h2 : bits .and .u64 (IntKind.u64.wrap (-2)) 31 = 30 := by decide +kernel
  have h3 := r32_eq 2 4 (by decide)
  have h4 := l32_eq 30 1073741824 (by decide)
  go_enter Try.func20, Try.ntmps20
  go_wp2
  go_ret
  exact ⟨rfl, rfl⟩
theorem rot2_q (x : Nat) (w : World) :
    Calls Try.prog 20 #[.int .u32 x, .int .i64 (-2)] w fun e w' => e = .returned (.int .u32 (rot x 2)) ∧ w' = w := (rot2_any x w).mono fun _ _ h => ⟨h.1, h.2.symm⟩
theorem rot6_any (x : Nat) (w : World) :
    Calls Try.prog 20 #[.int .u32 x, .int .i64 (-6)] w fun e w' => e = .returned (.int .u32 (rot x 6)) ∧ w = w' := by
  have h1 := o32_eq
  have h2 : bits .and .u64 (IntKind.u64.wrap (-6)) 31 = 26 := by decide +kernel
  have h3 := r32_eq 6 64 (by decide)
  have h4 := l32_eq 26 67108864 (by decide)
  go_enter Try.func20, Try.ntmps20
  go_wp2
  go_ret
  exact ⟨rfl, rfl⟩
theorem rot6_q (x : Nat) (w : World) :
    Calls Try.prog 20 #[.int .u32 x, .int .i64 (-6)] w fun e w' => e = .returned (.int .u32 (rot x 6)) ∧ w' = w := (rot6_any x w).mono fun _ _ h => ⟨h.1, h.2.symm⟩
theorem rot7_any (x : Nat) (w : World) :
    Calls Try.prog 20 #[.int .u32 x, .int .i64 (-7)] w fun e w' => e = .returned (.int .u32 (rot x 7)) ∧ w = w' := by
  have h1 := o32_eq
  have h2 : bits .and .u64 (IntKind.u64.wrap (-7)) 31 = 25 := by decide +kernel
  have h3 := r32_eq 7 128 (by decide)
  have h4 := l32_eq 25 33554432 (by decide)
  go_enter Try.func20, Try.ntmps20
  go_wp2
  go_ret
  exact ⟨rfl, rfl⟩
theorem rot7_q (x : Nat) (w : World) :
    Calls Try.prog 20 #[.int .u32 x, .int .i64 (-7)] w fun e w' => e = .returned (.int .u32 (rot x 7)) ∧ w' = w := (rot7_any x w).mono fun _ _ h => ⟨h.1, h.2.symm⟩
theorem rot11_any (x : Nat) (w : World) :
    Calls Try.prog 20 #[.int .u32 x, .int .i64 (-11)] w fun e w' => e = .returned (.int .u32 (rot x 11)) ∧ w = w' := by
  have h1 := o32_eq
  have h2 : bits .and .u64 (IntKind.u64.wrap (-11)) 31 = 21 := by decide +kernel
  have h3 := r32_eq 11 2048 (by decide)
  have h4 := l32_eq 21 2097152 (by decide)
  go_enter Try.func20, Try.ntmps20
  go_wp2
  go_ret
  exact ⟨rfl, rfl⟩
theorem rot11_q (x : Nat) (w : World) :
    Calls Try.prog 20 #[.int .u32 x, .int .i64 (-11)] w fun e w' => e = .returned (.int .u32 (rot x 11)) ∧ w' = w := (rot11_any x w).mono fun _ _ h => ⟨h.1, h.2.symm⟩
theorem rot13_any (x : Nat) (w : World) :
    Calls Try.prog 20 #[.int .u32 x, .int .i64 (-13)] w fun e w' => e = .returned (.int .u32 (rot x 13)) ∧ w = w' := by
  have h1 := o32_eq
  have h2 : bits .and .u64 (IntKind.u64.wrap (-13)) 31 = 19 := by decide +kernel
  have h3 := r32_eq 13 8192 (by decide)
  have h4 := l32_eq 19 524288 (by decide)
  go_enter Try.func20, Try.ntmps20
  go_wp2
  go_ret
  exact ⟨rfl, rfl⟩
theorem rot13_q (x : Nat) (w : World) :
    Calls Try.prog 20 #[.int .u32 x, .int .i64 (-13)] w fun e w' => e = .returned (.int .u32 (rot x 13)) ∧ w' = w := (rot13_any x w).mono fun _ _ h => ⟨h.1, h.2.symm⟩
theorem rot17_any (x : Nat) (w : World) :
    Calls Try.prog 20 #[.int .u32 x, .int .i64 (-17)] w fun e w' => e = .returned (.int .u32 (rot x 17)) ∧ w = w' := by
  have h1 := o32_eq
  have h2 : bits .and .u64 (IntKind.u64.wrap (-17)) 31 = 15 := by decide +kernel
  have h3 := r32_eq 17 131072 (by decide)
  have h4 := l32_eq 15 32768 (by decide)
  go_enter Try.func20, Try.ntmps20
  go_wp2
  go_ret
  exact ⟨rfl, rfl⟩
theorem rot17_q (x : Nat) (w : World) :
    Calls Try.prog 20 #[.int .u32 x, .int .i64 (-17)] w fun e w' => e = .returned (.int .u32 (rot x 17)) ∧ w' = w := (rot17_any x w).mono fun _ _ h => ⟨h.1, h.2.symm⟩
theorem rot18_any (x : Nat) (w : World) :
    Calls Try.prog 20 #[.int .u32 x, .int .i64 (-18)] w fun e w' => e = .returned (.int .u32 (rot x 18)) ∧ w = w' := by
  have h1 := o32_eq
  have h2 : bits .and .u64 (IntKind.u64.wrap (-18)) 31 = 14 := by decide +kernel
  have h3 := r32_eq 18 262144 (by decide)
  have h4 := l32_eq 14 16384 (by decide)
  go_enter Try.func20, Try.ntmps20
  go_wp2
  go_ret
  exact ⟨rfl, rfl⟩
theorem rot18_q (x : Nat) (w : World) :
    Calls Try.prog 20 #[.int .u32 x, .int .i64 (-18)] w fun e w' => e = .returned (.int .u32 (rot x 18)) ∧ w' = w := (rot18_any x w).mono fun _ _ h => ⟨h.1, h.2.symm⟩
theorem rot19_any (x : Nat) (w : World) :
    Calls Try.prog 20 #[.int .u32 x, .int .i64 (-19)] w fun e w' => e = .returned (.int .u32 (rot x 19)) ∧ w = w' := by
  have h1 := o32_eq
  have h2 : bits .and .u64 (IntKind.u64.wrap (-19)) 31 = 13 := by decide +kernel
  have h3 := r32_eq 19 524288 (by decide)
  have h4 := l32_eq 13 8192 (by decide)
  go_enter Try.func20, Try.ntmps20
  go_wp2
  go_ret
  exact ⟨rfl, rfl⟩
theorem rot19_q (x : Nat) (w : World) :
    Calls Try.prog 20 #[.int .u32 x, .int .i64 (-19)] w fun e w' => e = .returned (.int .u32 (rot x 19)) ∧ w' = w := (rot19_any x w).mono fun _ _ h => ⟨h.1, h.2.symm⟩
theorem rot22_any (x : Nat) (w : World) :
    Calls Try.prog 20 #[.int .u32 x, .int .i64 (-22)] w fun e w' => e = .returned (.int .u32 (rot x 22)) ∧ w = w' := by
  have h1 := o32_eq
  have h2 : bits .and .u64 (IntKind.u64.wrap (-22)) 31 = 10 := by decide +kernel
  have h3 := r32_eq 22 4194304 (by decide)
  have h4 := l32_eq 10 1024 (by decide)
  go_enter Try.func20, Try.ntmps20
  go_wp2
  go_ret
  exact ⟨rfl, rfl⟩
theorem rot22_q (x : Nat) (w : World) :
    Calls Try.prog 20 #[.int .u32 x, .int .i64 (-22)] w fun e w' => e = .returned (.int .u32 (rot x 22)) ∧ w' = w := (rot22_any x w).mono fun _ _ h => ⟨h.1, h.2.symm⟩
theorem rot25_any (x : Nat) (w : World) :
    Calls Try.prog 20 #[.int .u32 x, .int .i64 (-25)] w fun e w' => e = .returned (.int .u32 (rot x 25)) ∧ w = w' := by
  have h1 := o32_eq
  have h2 : bits .and .u64 (IntKind.u64.wrap (-25)) 31 = 7 := by decide +kernel
  have h3 := r32_eq 25 33554432 (by decide)
  have h4 := l32_eq 7 128 (by decide)
  go_enter Try.func20, Try.ntmps20
  go_wp2
  go_ret
  exact ⟨rfl, rfl⟩
theorem rot25_q (x : Nat) (w : World) :
    Calls Try.prog 20 #[.int .u32 x, .int .i64 (-25)] w fun e w' => e = .returned (.int .u32 (rot x 25)) ∧ w' = w := (rot25_any x w).mono fun _ _ h => ⟨h.1, h.2.symm⟩
/-- The widths in use, by the left turn that is asked. -/
def RotOk (m : Int) : Prop := m = -2 ∨ m = -6 ∨ m = -7 ∨ m = -11 ∨ m = -13 ∨ m = -17 ∨ m = -18 ∨ m = -19 ∨ m = -22 ∨ m = -25
theorem rotv_q (x : Nat) (m : Int) (hm : RotOk m) (w : World) : Calls Try.prog 20 #[.int .u32 x, .int .i64 m] w fun e w' => e = .returned (.int .u32 (rot x m.natAbs)) ∧ w' = w := by
  rcases hm with rfl | rfl | rfl | rfl | rfl | rfl | rfl | rfl | rfl | rfl
  · exact rot2_q x w
  · exact rot6_q x w
  · exact rot7_q x w
  · exact rot11_q x w
  · exact rot13_q x w
  · exact rot17_q x w
  · exact rot18_q x w
  · exact rot19_q x w
  · exact rot22_q x w
  · exact rot25_q x w
end Go.Proofs.Ytkdkmnemmenikaa

/- Walks: package sum's words: a block spread to a word for each round. -/
namespace Go.Proofs.Ytkdkmnemmenikaa
open Go.RowKit

def u32s (l : List Nat) : Array Value := (l.map fun (x : Nat) => Value.int .u32 (x : Int)).toArray
def fillTo (n : Nat) (l : List Nat) : List Nat := l ++ List.replicate (n - l.length) 0
set_option maxRecDepth 100000 in
theorem fillTo_len {n : Nat} {l : List Nat} (h : l.length ≤ n) : (fillTo n l).length = n := by unfold fillTo; simp; omega
theorem u32s_size (l : List Nat) : (u32s l).size = l.length := by simp [u32s]
theorem u32s_get {l : List Nat} {j : Nat} (h : j < l.length) : (u32s l)[j]? = some (.int .u32 ((l.getD j 0 : Nat) : Int)) := by
  simp [u32s, List.getElem?_map, List.getElem?_eq_getElem h, List.getD]
set_option maxRecDepth 100000 in
theorem fillTo_get {n j : Nat} {l : List Nat} (h : j < l.length) : (u32s (fillTo n l))[j]? = some (.int .u32 ((l.getD j 0 : Nat) : Int)) := by
  rw [u32s_get (by unfold fillTo; simp; omega)]
  unfold fillTo
  simp [List.getD, List.getElem?_append_left h]
set_option maxRecDepth 100000 in
theorem fillTo_at {n j : Nat} {l : List Nat} (h : l.length = j) (hj : j < n) : (u32s (fillTo n l))[j]? = some (.int .u32 0) := by
  subst h
  rw [u32s_get (by rw [fillTo_len (by omega)]; exact hj)]
  unfold fillTo
  rw [List.getD, List.getElem?_append_right (Nat.le_refl _), Nat.sub_self, List.getElem?_replicate, if_pos (by omega)]
  rfl
set_option maxRecDepth 100000 in
theorem fillTo_set {n j x : Nat} {l : List Nat} (h : l.length = j) (hj : j < n) : (u32s (fillTo n l)).setIfInBounds j (.int .u32 (x : Int)) = u32s (fillTo n (l ++ [x])) := by
  subst h
  unfold fillTo u32s
  obtain ⟨m, hm⟩ : ∃ m, n - l.length = m + 1 := ⟨n - l.length - 1, by omega⟩
  have h2 : n - (l ++ [x]).length = m := by simp; omega
  rw [hm, h2, List.replicate_succ]
  simp [List.map_append]

set_option maxRecDepth 100000 in
set_option maxHeartbeats 600000 in
theorem words_any (A : Option Addr) (cap : Nat) (b : List Nat) (w : World) (hl : b.length = 64) (hr : Rd w A (b.map bv)) (hx : ∀ x ∈ b, x < 256) :
    Calls Try.prog 18 #[.slice A 64 cap] w fun e w' => e = .returned (.agg (u32s (wordsS b 64))) ∧ Below w.heap.size w w' := by
  have X := x32_eq
  have O := o32_eq
  have P1 := a32_eq
  have P2 := a32_eq'
  have R3 := r32_eq 3 8 (by decide)
  have R10 := r32_eq 10 1024 (by decide)
  have L24 := l32_eq 24 16777216 (by decide)
  have L16 := l32_eq 16 65536 (by decide)
  have L8 := l32_eq 8 256 (by decide)
  have M24 := l32_eq' 24 16777216 (by decide)
  have M16 := l32_eq' 16 65536 (by decide)
  have M8 := l32_eq' 8 256 (by decide)
  go_enter Try.func18, Try.ntmps18
  go_wp2_with fail
  go_loopw [10] (fun i wr => ∃ k : Nat, k ≤ 16 ∧ i = .int .i64 k ∧ Blk wr w.heap.size 47 (u32s (fillTo 64 [])) ∧ Blk wr (w.heap.size + 1) 47 (u32s (fillTo 64 (wordsS b k))) ∧ Below w.heap.size w wr) (fun i _ => 16 - (intOf i).toNat)
  case atStart => exact ⟨0, by omega, rfl, (Blk.new w _ _).alloc _, Blk.newAt _ _ _ _ (by simp), ((Keeps.refl [] w).alloc _).below.alloc (by simp) _⟩
  case round =>
    obtain ⟨k, hk, rfl, hZ, hB, hb⟩ := hrel
    by_cases hlt : k < 16
    · have hw : wordsS b (k + 1) = wordsS b k ++ [word4 (b.getD (4 * k) 0) (b.getD (4 * k + 1) 0) (b.getD (4 * k + 2) 0) (b.getD (4 * k + 3) 0)] := by rw [wordsS]; simp only [if_pos hlt]
      have HW := Lib.hid hw
      clear hw
      have hg : ∀ j, j < 64 → ∃ ad, A = some ad ∧ wr.cell? (ad.add j) = some (.int .u8 ((b.getD j 0 : Nat) : Int)) ∧ b.getD j 0 < 256 := fun j hj => by
        obtain ⟨ad, e, h⟩ := (hr.below hb).at_ (j := j) (by simpa [hl] using hj)
        have hj' : j < b.length := by omega
        refine ⟨ad, e, ?_, ?_⟩
        · rw [h]; simp [bv, List.getD, List.getElem?_eq_getElem hj']
        · simp only [List.getD, List.getElem?_eq_getElem hj', Option.getD_some]; exact hx _ (List.getElem_mem _)
      obtain ⟨ad, rfl, c0, l0⟩ := hg (4 * k) (by omega)
      obtain ⟨ad1, e, c1, l1⟩ := hg (4 * k + 1) (by omega)
      injection e with e; subst e
      obtain ⟨ad1, e, c2, l2⟩ := hg (4 * k + 2) (by omega)
      injection e with e; subst e
      obtain ⟨ad1, e, c3, l3⟩ := hg (4 * k + 3) (by omega)
      injection e with e; subst e
      clear hg
      generalize b.getD (4 * k) 0 = b0 at *
      generalize b.getD (4 * k + 1) 0 = b1 at *
      generalize b.getD (4 * k + 2) 0 = b2 at *
      generalize b.getD (4 * k + 3) 0 = b3 at *
      have s0 : wr.cell? ⟨w.heap.size + 1, k, none⟩ = some (.int .u32 0) := by rw [hB.cell, fillTo_at (wordsS_len b k) (by omega)]
      have f0 := hB.frozen k
      go_wp2_with fail
      have e0 : IntKind.i64.wrap (4 * (k : Int)) = 4 * (k : Int) := IntWalk.i64_in _ (by omega)
      have e1 : IntKind.i64.wrap (4 * (k : Int) + 1) = 4 * (k : Int) + 1 := IntWalk.i64_in _ (by omega)
      have e2 : IntKind.i64.wrap (4 * (k : Int) + 2) = 4 * (k : Int) + 2 := IntWalk.i64_in _ (by omega)
      have e3 : IntKind.i64.wrap (4 * (k : Int) + 3) = 4 * (k : Int) + 3 := IntWalk.i64_in _ (by omega)
      have t0 : (4 * (k : Int)).toNat = 4 * k := by omega
      have t1 : (4 * (k : Int) + 1).toNat = 4 * k + 1 := by omega
      have t2 : (4 * (k : Int) + 2).toNat = 4 * k + 2 := by omega
      have t3 : (4 * (k : Int) + 3).toNat = 4 * k + 3 := by omega
      have p0 : (0 : Int) ≤ 4 * (k : Int) := by omega
      have p1 : (0 : Int) ≤ 4 * (k : Int) + 1 := by omega
      have p2 : (0 : Int) ≤ 4 * (k : Int) + 2 := by omega
      have p3 : (0 : Int) ≤ 4 * (k : Int) + 3 := by omega
      have q0 : 4 * (k : Int) < 64 := by omega
      have q1 : 4 * (k : Int) + 1 < 64 := by omega
      have q2 : 4 * (k : Int) + 2 < 64 := by omega
      have q3 : 4 * (k : Int) + 3 < 64 := by omega
      have d1 : wr.cell? ⟨ad.block, ad.off + (4 * k + 1), none⟩ = some (Value.int IntKind.u8 ↑b1) := by rw [← add_pos ad (4 * k + 1) (by omega)]; exact c1
      have d2 : wr.cell? ⟨ad.block, ad.off + (4 * k + 1 + 1), none⟩ = some (Value.int IntKind.u8 ↑b2) := by rw [← add_pos ad (4 * k + 1 + 1) (by omega)]; exact c2
      have d3 : wr.cell? ⟨ad.block, ad.off + (4 * k + 1 + 1 + 1), none⟩ = some (Value.int IntKind.u8 ↑b3) := by rw [← add_pos ad (4 * k + 1 + 1 + 1) (by omega)]; exact c3
      have r0 : (k : Int) < 64 := by omega
      have r1 : (0 : Int) ≤ (k : Int) := by omega
      have w0 := w32_byte l0
      have w1 := w32_byte l1
      have w2 := w32_byte l2
      have w3 := w32_byte l3
      go_still_tail 35, (by kernel_rfl)
      clear e0 e1 e2 e3 t0 t1 t2 t3 p0 p1 p2 p3 q0 q1 q2 q3 w0 w1 w2 w3 c0 c1 c2 c3 d1 d2 d3 l0 l1 l2 l3
      have HO : Hid (o32 (o32 (o32 (l32 b0 24) (l32 b1 16)) (l32 b2 8)) b3 = word4 b0 b1 b2 b3) := rfl
      generalize o32 (o32 (o32 (l32 b0 24) (l32 b1 16)) (l32 b2 8)) b3 = V at *
      have hS := hB.set k (.int .u32 (V : Int))
      rw [fillTo_set (wordsS_len b k) (by omega)] at hS
      go_wp2_with fail
      go_roundw
      case rel => exact ⟨k + 1, by omega, by go_num, (hZ.far (p := ⟨w.heap.size + 1, k, none⟩) (by simp) _).drew, by rw [HW.out, ← HO.out]; exact hS.drew, (hb.setCell (by simp) _).drew⟩
      case measure => simp [intOf]; omega
    · obtain rfl : k = 16 := by omega
      rw [show ((16 : Nat) : Int) = 16 from rfl]
      clear L24 L16 L8 M24 M16 M8 hr hx hl
      have hz : Blk wr w.heap.size 47 (u32s (fillTo 64 [])) := hZ
      go_wp2_with fail
      generalize hW : wr = w1 at *
      clear hW
      go_loopw [5] (fun i wr => ∃ k : Nat, 16 ≤ k ∧ k ≤ 64 ∧ i = .int .i64 k ∧ Blk wr w.heap.size 47 (u32s (fillTo 64 [])) ∧ Blk wr (w.heap.size + 1) 47 (u32s (fillTo 64 (wordsS b k))) ∧ Below w.heap.size w wr) (fun i _ => 64 - (intOf i).toNat)
      case atStart => exact ⟨16, by omega, by omega, rfl, hz, hB, hb⟩
      case round =>
        clear hZ hB hb
        obtain ⟨k, hk1, hk2, rfl, hZ, hB, hb⟩ := hrel
        by_cases hlt : k < 64
        · have hw : wordsS b (k + 1) = wordsS b k ++ [wordN ((wordsS b k).getD (k - 16) 0) ((wordsS b k).getD (k - 15) 0) ((wordsS b k).getD (k - 7) 0) ((wordsS b k).getD (k - 2) 0)] := by rw [wordsS]; simp only [if_neg (show ¬ k < 16 by omega)]
          have HW := Lib.hid hw
          clear hw
          have hlen := wordsS_len b k
          have hC : ∀ w' : World, Blk w' (w.heap.size + 1) 47 (u32s (fillTo 64 (wordsS b k))) →
              w'.cell? ⟨w.heap.size + 1, k - 15, none⟩ = some (.int .u32 (((wordsS b k).getD (k - 15) 0 : Nat) : Int)) ∧
              w'.cell? ⟨w.heap.size + 1, k - 2, none⟩ = some (.int .u32 (((wordsS b k).getD (k - 2) 0 : Nat) : Int)) ∧
              w'.cell? ⟨w.heap.size + 1, k - 16, none⟩ = some (.int .u32 (((wordsS b k).getD (k - 16) 0 : Nat) : Int)) ∧
              w'.cell? ⟨w.heap.size + 1, k - 7, none⟩ = some (.int .u32 (((wordsS b k).getD (k - 7) 0 : Nat) : Int)) ∧
              w'.cell? ⟨w.heap.size + 1, k, none⟩ = some (.int .u32 0) := fun w' h => by
            simp only [h.cell]
            rw [fillTo_get (by omega), fillTo_get (by omega), fillTo_get (by omega), fillTo_get (by omega), fillTo_at hlen (by omega)]
            exact ⟨rfl, rfl, rfl, rfl, rfl⟩
          have HC := Lib.hid hC
          clear hC
          have hS := fun (w' : World) (h : Blk w' (w.heap.size + 1) 47 (u32s (fillTo 64 (wordsS b k)))) (x : Nat) => h.set k (.int .u32 (x : Int))
          simp only [fillTo_set hlen hlt] at hS
          have HS := Lib.hid hS
          clear hS hlen
          generalize (wordsS b k).getD (k - 15) 0 = x15 at *
          generalize (wordsS b k).getD (k - 2) 0 = x2 at *
          generalize (wordsS b k).getD (k - 16) 0 = x16 at *
          generalize (wordsS b k).getD (k - 7) 0 = x7 at *
          have e15 : IntKind.i64.wrap ((k : Int) - 15) = (k : Int) - 15 := IntWalk.i64_in _ (by omega)
          have e2 : IntKind.i64.wrap ((k : Int) - 2) = (k : Int) - 2 := IntWalk.i64_in _ (by omega)
          have e16 : IntKind.i64.wrap ((k : Int) - 16) = (k : Int) - 16 := IntWalk.i64_in _ (by omega)
          have e7 : IntKind.i64.wrap ((k : Int) - 7) = (k : Int) - 7 := IntWalk.i64_in _ (by omega)
          have t15 : ((k : Int) - 15).toNat = k - 15 := by omega
          have t2 : ((k : Int) - 2).toNat = k - 2 := by omega
          have t16 : ((k : Int) - 16).toNat = k - 16 := by omega
          have t7 : ((k : Int) - 7).toNat = k - 7 := by omega
          have p15 : (0 : Int) ≤ (k : Int) - 15 := by omega
          have p2 : (0 : Int) ≤ (k : Int) - 2 := by omega
          have p16 : (0 : Int) ≤ (k : Int) - 16 := by omega
          have p7 : (0 : Int) ≤ (k : Int) - 7 := by omega
          have m16 : (16 : Int) ≤ (k : Int) := by omega
          have m7 : (7 : Int) ≤ (k : Int) := by omega
          have q15 : (k : Int) - 15 < 64 := by omega
          have q2 : (k : Int) - 2 < 64 := by omega
          have q16 : (k : Int) - 16 < 64 := by omega
          have q7 : (k : Int) - 7 < 64 := by omega
          have r0 : (k : Int) < 64 := by omega
          have r1 : (0 : Int) ≤ (k : Int) := by omega
          obtain ⟨c15, c2, -, -, -⟩ := HC.out wr hB
          go_wp2_with fail
          go_quiet (fail)
          replace hZ := hZ.drewN nq
          replace hB := hB.drewN nq
          replace hb := below_drewN hb nq
          clear c15 c2
          generalize wr.drewN nq = w2 at *
          obtain ⟨-, -, c16, c7, s0⟩ := HC.out w2 hB
          have f0 := hB.frozen k
          go_wp2_with fail
          refine (rot7_any x15 _).mono ?_
          rintro e w' ⟨rfl, rfl⟩
          go_wp2_with fail
          refine (rot18_any x15 _).mono ?_
          rintro e w' ⟨rfl, rfl⟩
          go_wp2_with fail
          refine (rot17_any x2 _).mono ?_
          rintro e w' ⟨rfl, rfl⟩
          go_wp2_with fail
          refine (rot19_any x2 _).mono ?_
          rintro e w' ⟨rfl, rfl⟩
          go_wp2_with fail
          go_still_tail 15, (by kernel_rfl)
          clear m16 m7 e15 e2 e16 e7 t15 t2 t16 t7 p15 p2 p16 p7 q15 q2 q16 q7 c16 c7
          have HO : Hid (a32 (a32 (a32 x16 (x32 (x32 (rot x15 7) (rot x15 18)) (r32 x15 3))) x7) (x32 (x32 (rot x2 17) (rot x2 19)) (r32 x2 10)) = wordN x16 x15 x7 x2) := rfl
          generalize a32 (a32 (a32 x16 (x32 (x32 (rot x15 7) (rot x15 18)) (r32 x15 3))) x7) (x32 (x32 (rot x2 17) (rot x2 19)) (r32 x2 10)) = V at *
          go_wp2_with fail
          go_roundw
          case rel => exact ⟨k + 1, by omega, by omega, by go_num, (hZ.far (p := ⟨w.heap.size + 1, k, none⟩) (by simp) _).drew, by rw [HW.out, ← HO.out]; exact (HS.out w2 hB V).drew, (hb.setCell (by simp) _).drew⟩
          case measure => simp [intOf]; omega
        · obtain rfl : k = 64 := by omega
          rw [show ((64 : Nat) : Int) = 64 from rfl]
          have hfull : fillTo 64 (wordsS b 64) = wordsS b 64 := by unfold fillTo; rw [wordsS_len]; simp
          rw [hfull] at hB
          clear hfull
          have hsz := u32s_size (wordsS b 64)
          rw [wordsS_len] at hsz
          have hone : (u32s (wordsS b 64)).all (·.oneCell') = true := by unfold u32s; rw [Array.all_eq_true_iff_forall_mem]; intro v hv; simp at hv; obtain ⟨x, _, rfl⟩ := hv; rfl
          have hsz0 : (u32s (fillTo 64 [])).size = 64 := by rw [u32s_size, fillTo_len (by simp)]
          have hi : (Try.prog.info? 47).map (·.size) = some 64 := by kernel_rfl
          have HI := Lib.hid (hi.trans (congrArg some hsz.symm))
          have HS := Lib.hid (hsz.trans hsz0.symm)
          have H1 := Lib.hid hone
          clear hsz hsz0 hone hi
          generalize hCS : u32s (wordsS b 64) = CS at *
          have HCS := Lib.hid hCS
          clear hCS
          go_wp2_with (first
            | (refine wpList_load_blk rfl 47 _ rfl (w.heap.size + 1) rfl 47 CS _ hB Try.underlying47 rfl HI.out ?_)
            | (refine wpList_store_blk rfl 47 _ _ rfl w.heap.size 47 _ CS rfl rfl hZ HS.out HI.out H1.out ?_; intro w' hB' hk'))
          refine post_blk rfl rfl w.heap.size 47 CS _ rfl hB' Try.underlying47 rfl HI.out ⟨congrArg (fun z => Ending.returned (.agg z)) HCS.out.symm, ?_⟩
          exact ((Keeps.of_below (S := []) hb).trans' hk' (by simp)).below
end Go.Proofs.Ytkdkmnemmenikaa

/- Walks: package sum's rounds, begin, take. -/
namespace Go.Proofs.Ytkdkmnemmenikaa
open Go.RowKit

set_option maxRecDepth 100000 in
theorem u32s_one (l : List Nat) : (u32s l).all (·.oneCell') = true := by
  unfold u32s; rw [Array.all_eq_true_iff_forall_mem]; intro v hv; simp at hv; obtain ⟨x, _, rfl⟩ := hv; rfl
theorem info64 : (Try.prog.info? 47).map (·.size) = some 64 := by kernel_rfl
set_option maxRecDepth 100000 in
theorem info8 : (Try.prog.info? 39).map (·.size) = some 8 := by kernel_rfl

theorem keys_lit : u32s keysS = #[.int .u32 1116352408, .int .u32 1899447441, .int .u32 3049323471, .int .u32 3921009573, .int .u32 961987163, .int .u32 1508970993, .int .u32 2453635748, .int .u32 2870763221, .int .u32 3624381080, .int .u32 310598401, .int .u32 607225278, .int .u32 1426881987, .int .u32 1925078388, .int .u32 2162078206, .int .u32 2614888103, .int .u32 3248222580, .int .u32 3835390401, .int .u32 4022224774, .int .u32 264347078, .int .u32 604807628, .int .u32 770255983, .int .u32 1249150122, .int .u32 1555081692, .int .u32 1996064986, .int .u32 2554220882, .int .u32 2821834349, .int .u32 2952996808, .int .u32 3210313671, .int .u32 3336571891, .int .u32 3584528711, .int .u32 113926993, .int .u32 338241895, .int .u32 666307205, .int .u32 773529912, .int .u32 1294757372, .int .u32 1396182291, .int .u32 1695183700, .int .u32 1986661051, .int .u32 2177026350, .int .u32 2456956037, .int .u32 2730485921, .int .u32 2820302411, .int .u32 3259730800, .int .u32 3345764771, .int .u32 3516065817, .int .u32 3600352804, .int .u32 4094571909, .int .u32 275423344, .int .u32 430227734, .int .u32 506948616, .int .u32 659060556, .int .u32 883997877, .int .u32 958139571, .int .u32 1322822218, .int .u32 1537002063, .int .u32 1747873779, .int .u32 1955562222, .int .u32 2024104815, .int .u32 2227730452, .int .u32 2361852424, .int .u32 2428436474, .int .u32 2756734187, .int .u32 3204031479, .int .u32 3329325298] := by kernel_rfl
set_option maxRecDepth 100000 in
theorem begin_lit : u32s beginS = #[.int .u32 1779033703, .int .u32 3144134277, .int .u32 1013904242, .int .u32 2773480762, .int .u32 1359893119, .int .u32 2600822924, .int .u32 528734635, .int .u32 1541459225] := by kernel_rfl
theorem one_keys : (u32s keysS).all (·.oneCell') = true := u32s_one _
theorem one_begin : (u32s beginS).all (·.oneCell') = true := u32s_one _
set_option maxRecDepth 100000 in
set_option maxHeartbeats 1000000 in
theorem rounds_any (w : World) :
    Calls Try.prog 19 #[] w fun e w' => e = .returned (.agg (u32s keysS)) ∧ Below w.heap.size w w' := by
  have h1 := one_keys
  have h2 := u32s_size keysS
  rw [keys_lit] at h1 h2 ⊢
  go_enter Try.func19, Try.ntmps19
  go_wp2_with (refine wpList_store_blk rfl 47 (.tmp 0) (.tmp 1) rfl w.heap.size 47 _ _ rfl rfl (Blk.new w _ _) rfl info64 h1 ?_; intro w' hB' hk')
  refine post_blk rfl rfl w.heap.size 47 _ _ rfl hB' Try.underlying47 rfl info64 ⟨rfl, ?_⟩
  exact (((Keeps.refl [] w).alloc _).trans' hk' (by simp)).below

set_option maxRecDepth 100000 in
theorem begin_any (w : World) :
    Calls Try.prog 13 #[] w fun e w' => e = .returned (.agg (u32s beginS)) ∧ Below w.heap.size w w' := by
  have h1 := one_begin
  rw [begin_lit] at h1 ⊢
  go_enter Try.func13, Try.ntmps13
  go_wp2_with (refine wpList_store_blk rfl 39 (.tmp 0) (.tmp 1) rfl w.heap.size 39 _ _ rfl rfl (Blk.new w _ _) rfl info8 h1 ?_; intro w' hB' hk')
  refine post_blk rfl rfl w.heap.size 39 _ _ rfl hB' Try.underlying39 rfl info8 ⟨rfl, ?_⟩
  exact (((Keeps.refl [] w).alloc _).trans' hk' (by simp)).below

/-- s with the sums with v in its first k places. -/
def mixS (s v : List Nat) (k : Nat) : List Nat := (List.zipWith a32 s v).take k ++ s.drop k
set_option maxRecDepth 100000 in
theorem mixS_len {s v : List Nat} {k : Nat} (hs : s.length = 8) (hv : v.length = 8) (hk : k ≤ 8) : (mixS s v k).length = 8 := by
  unfold mixS; simp [hs, hv]; omega
theorem mixS_get {s v : List Nat} {k : Nat} (hs : s.length = 8) (hv : v.length = 8) (hk : k < 8) : (u32s (mixS s v k))[k]? = some (.int .u32 ((s.getD k 0 : Nat) : Int)) := by
  have hl : (List.take k (List.zipWith a32 s v)).length = k := by simp [hs, hv]; omega
  rw [u32s_get (by rw [mixS_len hs hv (by omega)]; exact hk)]
  unfold mixS
  rw [List.getD, List.getElem?_append_right (by omega), List.getElem?_drop, hl]
  simp [List.getD]
set_option maxRecDepth 100000 in
theorem mixS_set {s v : List Nat} {k : Nat} (hs : s.length = 8) (hv : v.length = 8) (hk : k < 8) : (u32s (mixS s v k)).setIfInBounds k (.int .u32 ((a32 (s.getD k 0) (v.getD k 0) : Nat) : Int)) = u32s (mixS s v (k + 1)) := by
  have hzl : (List.zipWith a32 s v).length = 8 := by simp [hs, hv]
  have hz : (List.zipWith a32 s v)[k]'(by omega) = a32 (s.getD k 0) (v.getD k 0) := by
    rw [List.getElem_zipWith]
    simp [List.getD, List.getElem?_eq_getElem (show k < s.length by omega), List.getElem?_eq_getElem (show k < v.length by omega)]
  unfold mixS
  rw [List.take_succ_eq_append_getElem (by omega), hz]
  generalize a32 (s.getD k 0) (v.getD k 0) = x at *
  clear hz
  generalize List.zipWith a32 s v = z at *
  have hd : s.drop k = s[k]'(by omega) :: s.drop (k + 1) := List.drop_eq_getElem_cons (by omega)
  rw [hd]
  unfold u32s
  simp only [List.map_append, List.map_cons, List.append_assoc, List.cons_append, List.nil_append]
  have hl : (List.map (fun (x : Nat) => Value.int .u32 (x : Int)) (z.take k)).length = k := by rw [List.length_map, List.length_take]; omega
  rw [List.setIfInBounds_toArray, List.set_append_right _ _ (by omega), hl, Nat.sub_self]
  rfl
set_option maxRecDepth 100000 in
theorem mixS_all {s v : List Nat} (hs : s.length = 8) (hv : v.length = 8) : mixS s v 8 = List.zipWith a32 s v := by
  unfold mixS
  rw [List.take_of_length_le (by simp [hs, hv]), List.drop_of_length_le (by omega), List.append_nil]

set_option maxRecDepth 100000 in
theorem len8 {l : List Nat} (h : l.length = 8) : ∃ a b c d e f g k, l = [a, b, c, d, e, f, g, k] := by
  match l, h with
  | [a, b, c, d, e, f, g, k], _ => exact ⟨a, b, c, d, e, f, g, k, rfl⟩

set_option maxRecDepth 100000 in
theorem round_store {w : World} {g : Nat} {t : TypeId} {a b c d e f h k : Nat} (hV : Blk w g t (u32s [a, b, c, d, e, f, h, k])) (x0 x1 x2 x3 x4 x5 x6 x7 : Nat) :
    Blk ((((((((w.setCell ⟨g, 0, none⟩ (.int .u32 x0)).setCell ⟨g, 1, none⟩ (.int .u32 x1)).setCell ⟨g, 2, none⟩ (.int .u32 x2)).setCell ⟨g, 3, none⟩ (.int .u32 x3)).setCell ⟨g, 4, none⟩ (.int .u32 x4)).setCell ⟨g, 5, none⟩ (.int .u32 x5)).setCell ⟨g, 6, none⟩ (.int .u32 x6)).setCell ⟨g, 7, none⟩ (.int .u32 x7)) g t (u32s [x0, x1, x2, x3, x4, x5, x6, x7]) ∧
    Keeps [g] w ((((((((w.setCell ⟨g, 0, none⟩ (.int .u32 x0)).setCell ⟨g, 1, none⟩ (.int .u32 x1)).setCell ⟨g, 2, none⟩ (.int .u32 x2)).setCell ⟨g, 3, none⟩ (.int .u32 x3)).setCell ⟨g, 4, none⟩ (.int .u32 x4)).setCell ⟨g, 5, none⟩ (.int .u32 x5)).setCell ⟨g, 6, none⟩ (.int .u32 x6)).setCell ⟨g, 7, none⟩ (.int .u32 x7)) := by
  constructor
  · have h := hV.setCells [.int .u32 x0, .int .u32 x1, .int .u32 x2, .int .u32 x3, .int .u32 x4, .int .u32 x5, .int .u32 x6, .int .u32 x7] 0
    rw [splice_all _ _ (by rw [u32s_size]; rfl)] at h
    have e : u32s [x0, x1, x2, x3, x4, x5, x6, x7] = [Value.int .u32 x0, .int .u32 x1, .int .u32 x2, .int .u32 x3, .int .u32 x4, .int .u32 x5, .int .u32 x6, .int .u32 x7].toArray := by simp [u32s]
    rw [e]
    simpa only [World.setCells, Nat.reduceAdd, Nat.zero_add] using h
  · have m : ∀ i, (⟨g, i, none⟩ : Addr).block ∈ [g] ∨ w.heap.size ≤ (⟨g, i, none⟩ : Addr).block := fun i => .inl (by simp)
    exact ((((((((Keeps.refl [g] w).setCell _ (m 0)).setCell _ (m 1)).setCell _ (m 2)).setCell _ (m 3)).setCell _ (m 4)).setCell _ (m 5)).setCell _ (m 6)).setCell _ (m 7)
set_option maxRecDepth 100000 in
theorem roundS_eq (k w a b c d e f g h : Nat) : roundS k w [a, b, c, d, e, f, g, h] = [a32 (sumE e f g h k w) (sumA a b c), a, b, c, a32 d (sumE e f g h k w), e, f, g] := rfl

set_option maxRecDepth 100000 in
set_option maxHeartbeats 4000000 in
theorem take_any (A : Option Addr) (cap g : Nat) (st b : List Nat) (w : World) (hh : st.length = 8) (hg : Blk w g 39 (u32s st)) (hl : b.length = 64) (hr : Rd w A (b.map bv)) (hx : ∀ x ∈ b, x < 256) :
    Calls Try.prog 14 #[.pointer (some ⟨g, 0, none⟩), .slice A 64 cap] w fun e w' => e = .returned (.tuple #[]) ∧ Blk w' g 39 (u32s (blockS st b)) ∧ Keeps [g] w w' := by
  have X := x32_eq
  have C := c32_eq
  have N := n32_eq
  have P1 := a32_eq
  have P2 := a32_eq'
  have hwl := wordsS_len b 64
  have HWL := Lib.hid hwl
  have hk0 : keysS.length = 64 := rfl
  have hsw := u32s_size (wordsS b 64)
  rw [hwl] at hsw
  have HSW := Lib.hid hsw
  have hiw := Lib.hid (info64.trans (congrArg some hsw.symm))
  have hih := Lib.hid (info8.trans (congrArg some ((u32s_size st).trans hh).symm))
  have how := u32s_one (wordsS b 64)
  have hoh := u32s_one st
  have HB : Hid (blockS st b = List.zipWith a32 st (roundsS (wordsS b 64) st 64)) := rfl
  have HHH := Lib.hid hh
  clear hwl hsw hh
  generalize blockS st b = B at *
  go_enter Try.func14, Try.ntmps14
  go_wp2_with fail
  refine (words_any A cap b _ hl hr hx).mono ?_
  rintro e w1 ⟨rfl, hb1⟩
  generalize wordsS b 64 = ws at *
  clear hl hr hx
  go_wp2_with fail
  refine (rounds_any _).mono ?_
  rintro e w2 ⟨rfl, hb2⟩
  have hgl := hg.lt
  have hg2 := (hg.below hb1).below hb2
  have kp2 := (Keeps.of_below (S := []) hb1).trans (Keeps.of_below (S := []) hb2)
  clear hg hb1 hb2
  go_wp2_with (first
    | (refine wpList_store_blk rfl 47 (.tmp 4) (.tmp 14) rfl w2.heap.size 47 _ (u32s ws) rfl rfl ((Blk.new w2 _ _).alloc _) HSW.out hiw.out how ?_; intro w3 hB3 hk3)
    | (refine wpList_store_blk rfl 47 (.tmp 5) (.tmp 15) rfl (w2.heap.size + 1) 47 _ (u32s keysS) rfl rfl ((Blk.newAt (w2.alloc _) _ _ _ (by simp)).keeps hk3 (by simp)) rfl info64 (u32s_one _) ?_; intro w4 hB4 hk4)
    | (refine wpList_load_blk rfl 39 (.tmp 17) rfl g rfl 39 (u32s st) _ (((((hg2.alloc _).alloc _).keeps hk3 (by have := hg2.lt; simp; omega)).keeps hk4 (by have := hg2.lt; simp; omega))) Try.underlying39 rfl hih.out ?_)
    | (refine wpList_store_blk rfl 39 (.tmp 6) (.tmp 18) rfl w4.heap.size 39 _ (u32s st) rfl rfl (Blk.new w4 _ _) ((u32s_size st).trans HHH.out) hih.out hoh ?_; intro w5 hV hk5))
  have l2 := hg2.lt
  have l3 := hB3.lt
  have l4 := hB4.lt
  have s3 : w2.heap.size + 1 < w3.heap.size := by have := hk3.size; simp at this; omega
  have s4 := hk4.size
  have hW : Blk w5 w2.heap.size 47 (u32s ws) := ((hB3.keeps hk4 (by simp)).alloc _).keeps hk5 (by simp; omega)
  have hK : Blk w5 (w2.heap.size + 1) 47 (u32s keysS) := (hB4.alloc _).keeps hk5 (by simp; omega)
  have hG : Blk w5 g 39 (u32s st) := ((((((hg2.alloc _).alloc _).keeps hk3 (by simp; omega)).keeps hk4 (by simp; omega))).alloc _).keeps hk5 (by simp; omega)
  have kp5 : Keeps [] w w5 := (((((kp2.alloc _).alloc _).trans' hk3 (by have := kp2.size; simp; omega)).trans' hk4 (by have := kp2.size; simp; omega)).alloc _).trans' hk5 (by have := kp2.size; simp; omega)
  have hgv : g ≠ w4.heap.size := by omega
  have hgw : w2.heap.size ≠ w4.heap.size := by omega
  have hgk : w2.heap.size + 1 ≠ w4.heap.size := by omega
  have hlv : w.heap.size ≤ w4.heap.size := by have := kp2.size; omega
  clear l2 l3 l4 s3 s4 hk3 hk4 hk5 hB3 hB4 hg2 kp2
  generalize w4.heap.size = gv at *
  generalize w2.heap.size = gw at *
  clear hiw hih how hoh HSW
  go_loopw [19] (fun i wr => ∃ k : Nat, k ≤ 64 ∧ i = .int .i64 k ∧ Blk wr gw 47 (u32s ws) ∧ Blk wr (gw + 1) 47 (u32s keysS) ∧ Blk wr gv 39 (u32s (roundsS ws st k)) ∧ Blk wr g 39 (u32s st) ∧ Keeps [] w wr) (fun i _ => 64 - (intOf i).toNat)
  case atStart => exact ⟨0, by omega, rfl, hW, hK, hV, hG, kp5⟩
  case round =>
    clear hW hK hV hG kp5
    obtain ⟨k, hk, rfl, hW, hK, hV, hG, kp⟩ := hrel
    by_cases hlt : k < 64
    · have hw : roundsS ws st (k + 1) = roundS (keysS.getD k 0) (ws.getD k 0) (roundsS ws st k) := rfl
      obtain ⟨va, vb, vc, vd, ve, vf, vg, vh, hv⟩ := len8 (roundsS_len ws st HHH.out k)
      rw [hv] at hw hV
      have HW := Lib.hid hw
      clear hw hv
      have cw : wr.cell? ⟨gw, k, none⟩ = some (.int .u32 ((ws.getD k 0 : Nat) : Int)) := by rw [hW.cell, u32s_get (by rw [HWL.out]; exact hlt)]
      have ck : wr.cell? ⟨gw + 1, k, none⟩ = some (.int .u32 ((keysS.getD k 0 : Nat) : Int)) := by rw [hK.cell, u32s_get (by rw [hk0]; exact hlt)]
      have hC : ∀ w' : World, Blk w' gv 39 (u32s [va, vb, vc, vd, ve, vf, vg, vh]) →
          w'.cell? ⟨gv, 0, none⟩ = some (.int .u32 (va : Int)) ∧ w'.cell? ⟨gv, 1, none⟩ = some (.int .u32 (vb : Int)) ∧ w'.cell? ⟨gv, 2, none⟩ = some (.int .u32 (vc : Int)) ∧ w'.cell? ⟨gv, 3, none⟩ = some (.int .u32 (vd : Int)) ∧
          w'.cell? ⟨gv, 4, none⟩ = some (.int .u32 (ve : Int)) ∧ w'.cell? ⟨gv, 5, none⟩ = some (.int .u32 (vf : Int)) ∧ w'.cell? ⟨gv, 6, none⟩ = some (.int .u32 (vg : Int)) ∧ w'.cell? ⟨gv, 7, none⟩ = some (.int .u32 (vh : Int)) :=
        fun w' h => ⟨h.cell 0, h.cell 1, h.cell 2, h.cell 3, h.cell 4, h.cell 5, h.cell 6, h.cell 7⟩
      have HC := Lib.hid hC
      clear hC
      obtain ⟨c0, c1, c2, c3, c4, c5, c6, c7⟩ := HC.out wr hV
      have r0 : (k : Int) < 64 := by omega
      have r1 : (0 : Int) ≤ (k : Int) := by omega
      generalize ws.getD k 0 = xw at *
      generalize keysS.getD k 0 = xk at *
      go_wp2_with fail
      go_quiet ((go_at_call 20; exact Calls.quiet_of_same (rotv_q _ _ (by unfold RotOk; decide) _)))
      replace hW := hW.drewN nq
      replace hK := hK.drewN nq
      replace hV := hV.drewN nq
      replace hG := hG.drewN nq
      replace kp := kp.drewN nq
      replace cw : ((wr).drewN nq).cell? ⟨gw, k, none⟩ = some (.int .u32 (xw : Int)) := cw
      replace ck : ((wr).drewN nq).cell? ⟨gw + 1, k, none⟩ = some (.int .u32 (xk : Int)) := ck
      clear c0 c1 c2 c3 c4 c5 c6 c7
      generalize (wr).drewN nq = w6 at *
      clear nq
      obtain ⟨c0, c1, c2, c3, c4, c5, c6, c7⟩ := HC.out w6 hV
      go_wp2_with fail
      go_quiet (fail)
      replace hW := hW.drewN nq
      replace hK := hK.drewN nq
      replace hV := hV.drewN nq
      replace hG := hG.drewN nq
      replace kp := kp.drewN nq
      replace cw : ((w6).drewN nq).cell? ⟨gw, k, none⟩ = some (.int .u32 (xw : Int)) := cw
      replace ck : ((w6).drewN nq).cell? ⟨gw + 1, k, none⟩ = some (.int .u32 (xk : Int)) := ck
      clear c0 c1 c2 c3 c4 c5 c6 c7
      generalize (w6).drewN nq = w7 at *
      clear nq
      obtain ⟨c0, c1, c2, c3, c4, c5, c6, c7⟩ := HC.out w7 hV
      go_wp2_with fail
      go_quiet ((go_at_call 20; exact Calls.quiet_of_same (rotv_q _ _ (by unfold RotOk; decide) _)))
      replace hW := hW.drewN nq
      replace hK := hK.drewN nq
      replace hV := hV.drewN nq
      replace hG := hG.drewN nq
      replace kp := kp.drewN nq
      replace cw : ((w7).drewN nq).cell? ⟨gw, k, none⟩ = some (.int .u32 (xw : Int)) := cw
      replace ck : ((w7).drewN nq).cell? ⟨gw + 1, k, none⟩ = some (.int .u32 (xk : Int)) := ck
      clear c0 c1 c2 c3 c4 c5 c6 c7
      generalize (w7).drewN nq = w8 at *
      clear nq
      obtain ⟨c0, c1, c2, c3, c4, c5, c6, c7⟩ := HC.out w8 hV
      have f0 := hV.frozen 0
      have f1 := hV.frozen 1
      have f2 := hV.frozen 2
      have f3 := hV.frozen 3
      have f4 := hV.frozen 4
      have f5 := hV.frozen 5
      have f6 := hV.frozen 6
      have f7 := hV.frozen 7
      go_wp2_with fail
      go_roundw
      case rel =>
        obtain ⟨hV8, hk9⟩ := round_store hV (a32 (sumE ve vf vg vh xk xw) (sumA va vb vc)) va vb vc (a32 vd (sumE ve vf vg vh xk xw)) ve vf vg
        rw [← roundS_eq, ← HW.out] at hV8
        unfold sumE sumA at hV8 hk9
        clear HC f0 f1 f2 f3 f4 f5 f6 f7 c0 c1 c2 c3 c4 c5 c6 c7 cw ck
        simp only [a32_e2, a32_e3]
        exact ⟨k + 1, by omega, by go_num, hW.keeps hk9 (by simpa using hgw), hK.keeps hk9 (by simpa using hgk), hV8, hG.keeps hk9 (by simpa using hgv), kp.trans' hk9 (by simpa using hlv)⟩
      case measure => simp [intOf]; omega
    · obtain rfl : k = 64 := by omega
      rw [show ((64 : Nat) : Int) = 64 from rfl]
      have hv := roundsS_len ws st HHH.out 64
      have HV := Lib.hid hv
      clear hW hK hv
      generalize roundsS ws st 64 = v at *
      go_wp2_with fail
      generalize hwr : wr = w6 at *
      clear hwr
      go_loopw [109] (fun i wr => ∃ k : Nat, k ≤ 8 ∧ i = .int .i64 k ∧ Blk wr gv 39 (u32s v) ∧ Blk wr g 39 (u32s (mixS st v k)) ∧ Keeps [g] w wr) (fun i _ => 8 - (intOf i).toNat)
      case atStart => exact ⟨0, by omega, rfl, hV, hG, kp.mono (by simp)⟩
      case round =>
        clear hV hG kp
        obtain ⟨k, hk, rfl, hV, hG, kp⟩ := hrel
        by_cases hlt : k < 8
        · have cs : wr.cell? ⟨g, k, none⟩ = some (.int .u32 ((st.getD k 0 : Nat) : Int)) := by rw [hG.cell, mixS_get HHH.out HV.out hlt]
          have cv : wr.cell? ⟨gv, k, none⟩ = some (.int .u32 ((v.getD k 0 : Nat) : Int)) := by rw [hV.cell, u32s_get (by rw [HV.out]; exact hlt)]
          have f0 := hG.frozen k
          have hS := hG.set k (.int .u32 ((a32 (st.getD k 0) (v.getD k 0) : Nat) : Int))
          rw [mixS_set HHH.out HV.out hlt] at hS
          generalize st.getD k 0 = xs at *
          generalize v.getD k 0 = xv at *
          have r0 : (k : Int) < 8 := by omega
          have r1 : (0 : Int) ≤ (k : Int) := by omega
          go_wp2_with fail
          go_still_tail 11, (by kernel_rfl)
          go_wp2_with fail
          go_roundw
          case rel => exact ⟨k + 1, by omega, by go_num, (hV.far (p := ⟨g, k, none⟩) (by simpa using hgv.symm) _).drew, hS.drew, (kp.setCell (p := ⟨g, k, none⟩) _ (by simp)).drew⟩
          case measure => simp [intOf]; omega
        · obtain rfl : k = 8 := by omega
          rw [mixS_all HHH.out HV.out, ← HB.out] at hG
          go_wp2_with fail
          go_end0
          exact ⟨rfl, hG, kp⟩
end Go.Proofs.Ytkdkmnemmenikaa

/- The library's contracts, laid at this translation. -/
namespace Go.Proofs.Ytkdkmnemmenikaa
open Go.RowKit Go.Shelf

def laysSlJ14_ren : Go.Shelf.Ren := ⟨fun | 14 => 12 | 15 => 17 | n => n, fun | 26 => 35 | 22 => 30 | 3 => 3 | 4 => 4 | 0 => 0 | 9 => 9 | 20 => 20 | 5 => 5 | n => n, fun | n => n⟩
theorem laysSlJ14 : Go.Proofs.SlLaysJ.n14 Try.prog laysSlJ14_ren := {
  mixed := by kernel_rfl
  f14 := Try.func12.trans (congrArg some (by kernel_rfl))
  f15 := Try.func17.trans (congrArg some (by kernel_rfl))
  t0 := Try.underlying0
  a0 := Try.isAgg0
  z0 := Try.sizeOf0
  v0 := Try.zeroValue0
  t3 := Try.underlying3
  a3 := Try.isAgg3
  z3 := Try.sizeOf3
  v3 := Try.zeroValue3
  t4 := Try.underlying4
  a4 := Try.isAgg4
  z4 := Try.sizeOf4
  v4 := Try.zeroValue4
  t9 := Try.underlying9
  a9 := Try.isAgg9
  z9 := Try.sizeOf9
  v9 := Try.zeroValue9
  t20 := Try.underlying20
  a20 := Try.isAgg20
  z20 := Try.sizeOf20
  v20 := Try.zeroValue20
  t22 := Try.underlying30
  a22 := Try.isAgg30
  z22 := Try.sizeOf30
  v22 := Try.zeroValue30
  t26 := Try.underlying35
  a26 := Try.isAgg35
  z26 := Try.sizeOf35
  v26 := Try.zeroValue35
  t5 := Try.underlying5
  z5 := Try.sizeOf5
  i5 := by kernel_rfl }
end Go.Proofs.Ytkdkmnemmenikaa

/- bytes.Join without a separator, out of the library's contract: what it returns is a slice of the call's own. -/
namespace Go.Proofs.Ytkdkmnemmenikaa
open Go.RowKit

def bytesU (l : List Nat) : List UInt8 := l.map UInt8.ofNat
theorem bytesU_len (l : List Nat) : (bytesU l).length = l.length := by simp [bytesU]
theorem u8_toNat {x : Nat} (h : x < 256) : (UInt8.ofNat x).toNat = x := by simp [UInt8.toNat_ofNat']; omega

/-- The cells of block b from o on hold slices of the bytes ls. -/
def Parts (w : World) (b o : Nat) (ls : List (List Nat)) : Prop :=
  ∀ i l, ls[i]? = some l → ∃ A cap, w.cell? ⟨b, o + i, none⟩ = some (.slice A l.length cap) ∧ Rd w A (l.map bv) ∧ (A = none → l = []) ∧ ∀ x ∈ l, x < 256

theorem own_fresh {B : Nat} {w : World} {v : Value} {l : List Nat} (h : Lib.FreshBytes B w v (bytesU l)) (hl : ∀ x ∈ l, x < 256) :
    ∃ S, Own w 1 v l.length (l.map bv) S ∧ ∀ x ∈ S, B ≤ x := by
  obtain ⟨g, cap, zs, rfl, hB, hlc, hm, hzl, hz, hb, hc, hf⟩ := h
  rw [bytesU_len] at hlc hb ⊢
  rcases Nat.eq_zero_or_pos cap with h0 | h0
  · subst h0
    have : l = [] := List.eq_nil_of_length_eq_zero (by omega)
    subst this
    exact ⟨[], ⟨by simp, .inl ⟨_, rfl, rfl, rfl⟩⟩, by simp⟩
  · refine ⟨[g], ⟨by simp, .inr ⟨g, 0, cap, rfl, rfl, hlc, hm, World.block_lt_of_cell? w _ (hc 0 h0), fun j hj => ?_, fun j u hu => ?_⟩⟩, by simpa using hB⟩
    · rw [Nat.zero_add]
      exact ⟨by rw [hc j (by omega)]; rfl, hf j (by omega)⟩
    · rw [Nat.zero_add]
      rw [List.getElem?_map] at hu
      obtain ⟨x, hx, rfl⟩ := Option.map_eq_some_iff.1 hu
      obtain ⟨hj, rfl⟩ := List.getElem?_eq_some_iff.1 hx
      rw [hc j (by omega)]
      have e := congrArg (fun z : List UInt8 => z[j]?) hb
      simp only [Lib.bytesOf, bytesU, List.getElem?_map, List.getElem?_take, if_pos hj, List.getElem?_eq_getElem hj, List.getElem?_eq_getElem (show j < zs.length by omega), Option.map_some, Option.some.injEq] at e
      have e2 := congrArg UInt8.toNat e
      have hzj := hz zs[j] (List.getElem_mem _)
      rw [u8_toNat (hl _ (List.getElem_mem _)), u8_toNat (by omega)] at e2
      simp only [bv, List.getD, List.getElem?_eq_getElem (show j < zs.length by omega), Option.getD_some]
      congr 2
      omega

theorem holdsB {w : World} {A : Option Addr} {cap : Nat} {l : List Nat} (hr : Rd w A (l.map bv)) (hA : A = none → l = []) (hx : ∀ x ∈ l, x < 256) :
    Lib.HoldsBytes w (.slice A l.length cap) (bytesU l) := by
  refine ⟨A, cap, by rw [bytesU_len], fun h => by rw [hA h]; rfl, fun a ha i x hi => ?_⟩
  subst ha
  unfold bytesU at hi
  rw [List.getElem?_map] at hi
  obtain ⟨y, hy, rfl⟩ := Option.map_eq_some_iff.1 hi
  obtain ⟨ad, e, h⟩ := hr i (bv y) (by rw [List.getElem?_map, hy]; rfl)
  injection e with e
  subst e
  rw [h, u8_toNat (hx y (List.mem_of_getElem? hy))]
  rfl

theorem flatten_bytesU (ls : List (List Nat)) : (ls.map bytesU).flatten = bytesU ls.flatten := by
  unfold bytesU
  rw [List.map_flatten]

theorem lens_eq (ls : List (List Nat)) : Lib.lens (ls.map bytesU) = ls.flatten.length := by
  unfold Lib.lens
  rw [List.map_map, List.length_flatten]
  congr 1
  apply List.map_congr_left
  intro l _
  simp [bytesU]

theorem intercalate_nil (ls : List (List UInt8)) : ([] : List UInt8).intercalate ls = ls.flatten := by
  unfold List.intercalate
  induction ls with
  | nil => rfl
  | cons l ls ih =>
    cases ls with
    | nil => simp
    | cons l2 ls => simp only [List.intersperse_cons_cons, List.flatten_cons, List.nil_append] at ih ⊢; rw [ih]

theorem join_any (A : Option Addr) (b o n c : Nat) (ls : List (List Nat)) (w : World) (hn : ls.length = n) (hc : n ≤ c) (hA : n ≠ 0 → A = some ⟨b, o, none⟩) (hp : Parts w b o ls) (hlen : ls.flatten.length ≤ 70368744177664) (hn2 : n ≤ 140737488355328) :
    Calls Try.prog 12 #[.slice A n c, .slice none 0 0] w fun e w' => ∃ v S, e = .returned v ∧ Own w' 1 v ls.flatten.length (ls.flatten.map bv) S ∧ Below w.heap.size w w' ∧ ∀ x ∈ S, w.heap.size ≤ x := by
  have hlt : ∀ x ∈ ls.flatten, x < 256 := by
    intro x hx
    obtain ⟨l, hl, hxl⟩ := List.mem_flatten.1 hx
    obtain ⟨i, hi⟩ := List.getElem?_of_mem hl
    obtain ⟨_, _, _, _, _, h⟩ := hp i l hi
    exact h x hxl
  match ls, hn with
  | [], hn =>
    subst hn
    have h := Any.bytes_Join_none laysSlJ14 A c (.slice none 0 0) w
    change Calls Try.prog 12 _ _ _ at h
    refine h.mono ?_
    rintro e w' ⟨rfl, rfl⟩
    exact ⟨_, [], rfl, ⟨by simp, .inl ⟨_, rfl, rfl, rfl⟩⟩, ((Keeps.refl [] w).alloc _).below, by simp⟩
  | [l], hn =>
    subst hn
    obtain rfl := hA (by simp)
    obtain ⟨Al, cl, hcell, hr, hnil, hx⟩ := hp 0 l rfl
    rw [Nat.add_zero] at hcell
    simp only [List.flatten_cons, List.flatten_nil, List.append_nil] at hlen hlt ⊢
    by_cases h0 : l = []
    · subst h0
      have h := Any.bytes_Join_one_empty laysSlJ14 b o c Al cl (.slice none 0 0) w hcell
      change Calls Try.prog 12 _ _ _ at h
      refine h.mono ?_
      rintro e w' ⟨rfl, rfl⟩
      exact ⟨_, [], rfl, Own.nil _ _, Below.refl _ _, by simp⟩
    · obtain ⟨ad, rfl⟩ : ∃ ad, Al = some ad := by
        cases Al with
        | none => exact absurd (hnil rfl) h0
        | some ad => exact ⟨ad, rfl⟩
      have h := Any.bytes_Join_one laysSlJ14 b o c ad cl (bytesU l) (.slice none 0 0) w (by rw [bytesU_len]; exact hcell)
        (fun i x hi => by
          obtain ⟨p, cap, e, _, h2⟩ := holdsB (cap := cl) hr hnil hx
          injection e with e1
          subst e1
          exact h2 ad rfl i x hi)
        (by rw [bytesU_len]; exact List.length_pos_iff.2 h0) (by rw [bytesU_len]; omega)
      change Calls Try.prog 12 _ _ _ at h
      refine h.mono ?_
      rintro e w' ⟨v, rfl, hf, hb⟩
      obtain ⟨S, h1, h2⟩ := own_fresh hf hlt
      exact ⟨v, S, rfl, h1, hb, h2⟩
  | l1 :: l2 :: r, hn =>
    obtain rfl := hA (by rw [← hn]; simp)
    generalize hls : l1 :: l2 :: r = ls at *
    have h2 : 2 ≤ n := by rw [← hn, ← hls]; simp
    have hP : Lib.PartsAt w ⟨b, o, none⟩ ((List.range ls.length).map fun i => (w.cell? ⟨b, o + i, none⟩).getD undef) (ls.map bytesU) := by
      refine ⟨by simp, fun i v hi => ?_, fun i v l hi hl => ?_⟩
      · rw [List.getElem?_map] at hi
        obtain ⟨j, hj, rfl⟩ := Option.map_eq_some_iff.1 hi
        obtain ⟨hj1, hj2⟩ := List.getElem?_eq_some_iff.1 hj
        simp at hj1 hj2
        subst hj2
        obtain ⟨A, cap, hcell, _⟩ := hp i ls[i] (List.getElem?_eq_getElem hj1)
        rw [Addr.add_lit, hcell]
        rfl
      · rw [List.getElem?_map] at hi hl
        obtain ⟨j, hj, rfl⟩ := Option.map_eq_some_iff.1 hi
        obtain ⟨hj1, hj2⟩ := List.getElem?_eq_some_iff.1 hj
        simp at hj1 hj2
        subst hj2
        obtain ⟨l', hl', rfl⟩ := Option.map_eq_some_iff.1 hl
        obtain ⟨A, cap, hcell, hr, hnil, hx⟩ := hp i l' hl'
        rw [hcell]
        exact holdsB hr hnil hx
    have h := Any.bytes_Join_many laysSlJ14 b o n c _ (ls.map bytesU) (.slice none 0 0) [] w (by simpa using hn) h2 hP hc ⟨none, 0, rfl, fun _ => rfl, by simp⟩ (by omega) (by rw [lens_eq, List.length_nil, Nat.zero_mul]; omega)
    change Calls Try.prog 12 _ _ _ at h
    refine h.mono ?_
    rintro e w' ⟨v, rfl, hf, hb⟩
    unfold Lib.join at hf
    rw [intercalate_nil, flatten_bytesU] at hf
    obtain ⟨S, h1, h2⟩ := own_fresh hf hlt
    exact ⟨v, S, rfl, h1, hb, h2⟩
end Go.Proofs.Ytkdkmnemmenikaa

/- The walk of sum.Of: its padding, its blocks, its bytes. -/
namespace Go.Proofs.Ytkdkmnemmenikaa
open Go.RowKit

/-- One byte that lies in a new block is appended. -/
theorem app_byte {ops : Array Oper} {rest : List Oper} {o : Oper} {a : Act} {w : World} {Q : Exit → Act → World → Prop} (hgd : o.guard = none) (s x : Operand)
    (ho : o.op = .call { callee := .builtin .append, args := #[s, x], argTypes := #[30, 30] })
    (v : Value) (n : Nat) (xs : List Value) (S : List Nat) (hs : a.eval s = v) (hseg : Own w 1 v n xs S)
    (g : Nat) (u : Int) (hx : a.eval x = .slice (some ⟨g, 0, none⟩) 1 1) (hc : w.cell? ⟨g, 0, none⟩ = some (.int .u8 u)) (hn : n + 1 ≤ 140737488355328)
    (h : ∀ A' c' w' S', Own w' 1 (.slice A' (n + 1) c') (n + 1) (xs ++ [.int .u8 u]) S' → Keeps S w w' → (S' = S ∨ S' = [w.heap.size]) → n + 1 ≤ c' → c' ≤ maxLen → wpList Try.prog ops Q rest (a.put o.dst (.slice A' (n + 1) c')) w') :
    wpList Try.prog ops Q (o :: rest) a w := by
  refine wpList_append_ownc w hgd s x 30 ho 5 (.int .u8 0) 1 1 Try.underlying30 (by kernel_rfl) rfl v n xs S hs hseg (some ⟨g, 0, none⟩) 1 1 [.int .u8 u] hx rfl ?_ (by simp) (by simp [Value.oneCell']) (by unfold maxLen; omega) (by omega) ?_
  · intro j z hz
    match j, hz with
    | 0, hz =>
      simp only [List.getElem?_cons_zero, Option.some.injEq] at hz
      subst hz
      exact ⟨_, rfl, by rw [Addr.add_lit]; exact hc⟩
  · intro v' w' S' h1 h2 h3
    obtain ⟨A', c', rfl, h4, h5, _⟩ := h1.form
    exact h A' c' w' S' h1 h2 h3 h4 h5

/-- The first m of thirty-two bytes; noughts behind. -/
def outS (r : List Nat) (m : Nat) : List Nat := r.take m ++ List.replicate (32 - m) 0
theorem outS_len {r : List Nat} {m : Nat} (hr : r.length = 32) (hm : m ≤ 32) : (outS r m).length = 32 := by simp [outS, hr]; omega
theorem outS_set {r : List Nat} {m : Nat} (hr : r.length = 32) (hm : m < 32) : (u8s (outS r m)).setIfInBounds m (.int .u8 ((r.getD m 0 : Nat) : Int)) = u8s (outS r (m + 1)) := by
  rw [u8s_set]
  unfold outS
  have hl : (r.take m).length = m := by rw [List.length_take]; omega
  rw [List.set_append_right _ _ (by omega), hl, Nat.sub_self]
  obtain ⟨z, hz⟩ : ∃ z, 32 - m = z + 1 := ⟨32 - m - 1, by omega⟩
  have hg : r.getD m 0 = r[m] := by simp [List.getD, List.getElem?_eq_getElem (show m < r.length by omega)]
  rw [hz, List.replicate_succ, List.set_cons_zero, show 32 - (m + 1) = z by omega, hg, List.take_succ_eq_append_getElem (by omega), List.append_assoc]
  rfl
theorem outS_all {r : List Nat} (hr : r.length = 32) : outS r 32 = r := by unfold outS; rw [List.take_of_length_le (by omega)]; simp
theorem flat_get : ∀ (F : List Nat) (k j : Nat), k < F.length → j < 4 → (F.flatMap bytes4).getD (4 * k + j) 0 = F.getD k 0 / 2 ^ (24 - 8 * j) % 256
  | x :: F, 0, j, _, hj => by
    have h : j = 0 ∨ j = 1 ∨ j = 2 ∨ j = 3 := by omega
    rcases h with rfl | rfl | rfl | rfl <;> simp [bytes4]
  | x :: F, k + 1, j, hk, hj => by
    rw [List.flatMap_cons]
    have ih := flat_get F k j (by simpa using hk) hj
    rw [List.getD, List.getElem?_append_right (by simp [bytes4]; omega)]
    rw [show 4 * (k + 1) + j - (bytes4 x).length = 4 * k + j by simp [bytes4]; omega]
    simpa [List.getD] using ih

theorem step_own {w wr w' : World} {S S' : List Nat} {o : Obj} {t : TypeId} {cs : Array Value} (hZ : Blk wr w.heap.size t cs) (hb : Below w.heap.size w wr) (hS : ∀ x ∈ S, w.heap.size + 1 ≤ x)
    (hk : Keeps S (wr.alloc o) w') (hS' : S' = S ∨ S' = [(wr.alloc o).heap.size]) : Blk w' w.heap.size t cs ∧ Below w.heap.size w w' ∧ ∀ x ∈ S', w.heap.size + 1 ≤ x := by
  have hl := hZ.lt
  have hn : w.heap.size ∉ S := fun hx => by have := hS _ hx; omega
  refine ⟨(hZ.alloc o).keeps hk hn, (((Keeps.of_below (S := []) hb).alloc o).trans' hk (fun x hx => .inr (by have := hS x hx; omega))).below, ?_⟩
  rcases hS' with rfl | rfl
  · exact hS
  · intro x hx
    simp at hx
    omega

/-- The bytes with what is laid behind them, m in all. -/
def padTo (l : List Nat) (m : Nat) : List Nat := l ++ [128] ++ List.replicate (m - (l.length + 1)) 0
theorem padTo_start (l : List Nat) : padTo l (l.length + 1) = l ++ [128] := by simp [padTo]
theorem padTo_succ (l : List Nat) (m : Nat) (h : l.length + 1 ≤ m) : padTo l (m + 1) = padTo l m ++ [0] := by
  unfold padTo
  rw [show m + 1 - (l.length + 1) = (m - (l.length + 1)) + 1 by omega, List.replicate_succ']
  simp only [List.append_assoc]
theorem padTo_len (l : List Nat) (m : Nat) (h : l.length + 1 ≤ m) : (padTo l m).length = m := by simp [padTo]; omega

theorem lenS_get (x : Nat) (k : Nat) (hk : k < 8) : (x : Int) / 2 ^ (56 - 8 * k) % 256 = (((lenS x).getD k 0 : Nat) : Int) := by
  have h : k = 0 ∨ k = 1 ∨ k = 2 ∨ k = 3 ∨ k = 4 ∨ k = 5 ∨ k = 6 ∨ k = 7 := by omega
  rcases h with rfl | rfl | rfl | rfl | rfl | rfl | rfl | rfl <;> simp [lenS]
theorem lenS_take (x k : Nat) (hk : k < 8) : (lenS x).take (k + 1) = (lenS x).take k ++ [(lenS x).getD k 0] := by
  have hl : k < (lenS x).length := by simpa [lenS] using hk
  rw [List.take_succ_eq_append_getElem hl]
  simp [List.getD, List.getElem?_eq_getElem hl]

def lenV : Value → Nat
  | .slice _ n _ => n
  | _ => 0

theorem map_bv_snoc (l : List Nat) (x : Nat) : (l ++ [x]).map bv = l.map bv ++ [.int .u8 (x : Int)] := by simp [bv]

set_option maxRecDepth 100000 in
set_option maxHeartbeats 4000000 in
theorem Of_any
    (A : Option Addr) (b o n c : Nat) (ls : List (List Nat)) (w : World) (hn : ls.length = n) (hc : n ≤ c) (hA : n ≠ 0 → A = some ⟨b, o, none⟩) (hp : Parts w b o ls) (hlen : ls.flatten.length ≤ 1099511627776) (hn2 : n ≤ 1099511627776) :
    Calls Try.prog 5 #[.slice A n c] w fun e w' => e = .returned (.agg (u8s (shaL ls.flatten))) ∧ Below w.heap.size w w' := by
  have hj := fun W (hW : Parts W b o ls) => join_any A b o n c ls W hn hc hA hW (by omega) (by omega)
  have HJ := Lib.hid hj
  have hlt : ∀ x ∈ ls.flatten, x < 256 := by
    intro x hx
    obtain ⟨l, hl, hxl⟩ := List.mem_flatten.1 hx
    obtain ⟨i, hi⟩ := List.getElem?_of_mem hl
    obtain ⟨_, _, _, _, _, h⟩ := hp i l hi
    exact h x hxl
  have hp1 : ∀ o, Parts (w.alloc o) b _ ls := fun ob i l hi => by
    obtain ⟨A, cap, h1, h2, h3⟩ := hp i l hi
    exact ⟨A, cap, (World.cell?_alloc_lt w ob _ (World.block_lt_of_cell? w _ h1)).trans h1, h2.alloc _, h3⟩
  have HP := Lib.hid hp1
  clear hj hp1 hp hn hc hA
  have HR : Hid (shaL ls.flatten = (blocksS beginS ((padS ls.flatten).length / 64) (padS ls.flatten)).flatMap bytes4) := rfl
  generalize shaL ls.flatten = R at *
  generalize hL : ls.flatten.length = L at *
  have HL := Lib.hid hL
  clear hL
  go_enter Try.func5, Try.ntmps5
  go_wp2_with fail
  refine (HJ.out _ (HP.out _)).mono ?_
  rintro e w1 ⟨v1, S1, rfl, hown1, hb1, hS1⟩
  obtain ⟨A1, c1, rfl, h41, h51, -⟩ := hown1.form
  have hZ : Blk w1 w.heap.size 24 (u8s (List.replicate 32 0)) := (Blk.new w _ _).below hb1
  have hb : Below w.heap.size w w1 := ((Keeps.refl [] w).alloc _).below.trans (hb1.mono (by simp))
  have hS : ∀ x ∈ S1, w.heap.size + 1 ≤ x := fun x hx => by have := hS1 x hx; simpa using this
  have hn1 : w.heap.size ∉ S1 := fun hx => by have := hS _ hx; omega
  clear hb1 hS1
  go_wp2_with (at_builtin; refine app_byte rfl (.tmp 17) (.tmp 18) rfl (.slice A1 L c1) L (ls.flatten.map bv) S1 (by rfl) (hown1.alloc _) w1.heap.size 128 (by rfl) (cell_one_new _ _ _ 0 _ rfl) (by omega) ?_; intro A2 c2 w2 S2 hown2 hk2 hS2 hc2 hm2)
  obtain ⟨hZ2, hb2, hS2'⟩ := step_own hZ hb hS hk2 hS2
  have h128 := map_bv_snoc ls.flatten 128
  rw [show ((128 : Nat) : Int) = 128 from rfl] at h128
  rw [← h128, ← padTo_start, HL.out] at hown2
  clear h128
  have HF : Hid (fillS L = (119 - L % 64) % 64) := rfl
  have hF : fillS L < 64 := Nat.mod_lt _ (by omega)
  clear hk2 hS2 hown1 h41 h51 hZ hb hS hn1
  go_loopw [3] (fun v wr => ∃ (m : Nat) (S : List Nat) (A : Option Addr) (c : Nat), L + 1 ≤ m ∧ m ≤ L + 1 + fillS L ∧ v = .slice A m c ∧ Own wr 1 (.slice A m c) m ((padTo ls.flatten m).map bv) S ∧ m ≤ c ∧ c ≤ maxLen ∧ (∀ x ∈ S, w.heap.size + 1 ≤ x) ∧
      Blk wr w.heap.size 24 (u8s (List.replicate 32 0)) ∧ Below w.heap.size w wr) (fun v _ => L + 1 + fillS L - lenV v)
  case atStart => exact ⟨L + 1, S2, A2, c2, Nat.le_refl _, by omega, rfl, hown2, hc2, hm2, hS2', hZ2, hb2⟩
  case round =>
    clear hown2 hc2 hm2 hS2' hZ2 hb2
    obtain ⟨m, S, Am, cm, hm1, hm2, rfl, hown, hc, hcm, hS, hZ, hb⟩ := hrel
    by_cases hlt2 : m < L + 1 + fillS L
    · have hne : m % 64 ≠ 56 := by have := HF.out; omega
      have hq : (((m : Int) % 64) == 56) = false := by rw [beq_eq_false_iff_ne]; omega
      have hq2 : (((m : Int) % 64) != 56) = true := by rw [bne_iff_ne]; omega
      clear hne
      go_wp2_with (at_builtin; refine app_byte rfl (.tmp 24) (.tmp 25) rfl (.slice Am m cm) m _ S (by rfl) (hown.alloc _) wr.heap.size 0 (by rfl) (cell_one_new _ _ _ 0 _ rfl) (by omega) ?_; intro A3 c3 w3 S3 hown3 hk3 hS3 hc3 hm3)
      obtain ⟨hZ3, hb3, hS3'⟩ := step_own hZ hb hS hk3 hS3
      have h0 := map_bv_snoc (padTo ls.flatten m) 0
      rw [show ((0 : Nat) : Int) = 0 from rfl] at h0
      rw [← h0, ← padTo_succ _ _ (by rw [HL.out]; exact hm1)] at hown3
      go_roundw
      case rel => exact ⟨m + 1, S3, A3, c3, by omega, by omega, rfl, hown3, hc3, hm3, hS3', hZ3, hb3⟩
      case measure => simp only [lenV]; omega
    · obtain rfl : m = L + 1 + fillS L := by omega
      have hM : (L + 1 + fillS L) % 64 = 56 := by have := HF.out; omega
      have HM := Lib.hid hM
      have hq : (((L + 1 + fillS L : Nat) : Int) % 64 == 56) = true := by rw [beq_iff_eq]; omega
      have hq2 : (((L + 1 + fillS L : Nat) : Int) % 64 != 56) = false := by rw [bne_eq_false_iff_eq]; omega
      have HP2 : Hid (padTo ls.flatten (L + 1 + fillS L) = ls.flatten ++ [128] ++ List.replicate (fillS L) 0) := by unfold Hid padTo; rw [HL.out, show L + 1 + fillS L - (L + 1) = fillS L by omega]
      have hPl := padTo_len ls.flatten (L + 1 + fillS L) (by rw [HL.out]; omega)
      have HPl := Lib.hid hPl
      clear hPl hM hm1 hm2 hlt2
      generalize padTo ls.flatten (L + 1 + fillS L) = P at *
      have hmb : L + 1 + fillS L ≤ 1099511627840 := by omega
      generalize L + 1 + fillS L = m at *
      go_wp2_with fail
      generalize hwr : wr = w4 at *
      clear hwr
      go_loopw [3, 5] (fun v i wr => ∃ (k : Nat) (S : List Nat) (A : Option Addr) (c : Nat), k ≤ 8 ∧ i = .int .i64 (56 - 8 * (k : Int)) ∧ v = .slice A (m + k) c ∧ Own wr 1 (.slice A (m + k) c) (m + k) ((P ++ (lenS (L * 8)).take k).map bv) S ∧ m + k ≤ c ∧ c ≤ maxLen ∧ (∀ x ∈ S, w.heap.size + 1 ≤ x) ∧
        Blk wr w.heap.size 24 (u8s (List.replicate 32 0)) ∧ Below w.heap.size w wr) (fun v _ _ => m + 8 - lenV v)
      case atStart => exact ⟨0, S, Am, cm, by omega, rfl, rfl, by simpa using hown, hc, hcm, hS, hZ, hb⟩
      case round =>
        clear hown hc hcm hS hZ hb
        obtain ⟨k, S, Ak, ck, hk, rfl, rfl, hown, hc, hcm, hS, hZ, hb⟩ := hrel
        by_cases hk8 : k < 8
        · have i0 : (0 : Int) ≤ 56 - 8 * (k : Int) := by omega
          have i1 : 56 - 8 * (k : Int) ≤ 64 := by omega
          have hv := lenS_get (L * 8) k hk8
          rw [show ((L * 8 : Nat) : Int) = (L : Int) * 8 by omega] at hv
          have HV := Lib.hid hv
          clear hv
          go_wp2_with (at_builtin; refine app_byte rfl (.tmp 31) (.tmp 36) rfl (.slice Ak (m + k) ck) (m + k) _ S (by rfl) (hown.alloc _) wr.heap.size _ (by rfl) (cell_one_new _ _ _ 0 _ rfl) (by omega) ?_; intro A3 c3 w3 S3 hown3 hk3 hS3 hc3 hm3)
          obtain ⟨hZ3, hb3, hS3'⟩ := step_own hZ hb hS hk3 hS3
          rw [HV.out, ← map_bv_snoc, List.append_assoc, ← lenS_take _ _ hk8] at hown3
          have i2 : IntKind.i64.wrap (56 - 8 * (k : Int) - 8) = 56 - 8 * (k : Int) - 8 := IntWalk.i64_in _ (by omega)
          go_wp2_with fail
          clear i2
          go_roundw
          case rel => exact ⟨k + 1, S3, A3, c3, by omega, by go_num, rfl, hown3, hc3, hm3, hS3', hZ3, hb3⟩
          case measure => simp only [lenV]; omega
        · obtain rfl : k = 8 := by omega
          rw [List.take_of_length_le (by simp [lenS])] at hown
          have hpad : P ++ lenS (L * 8) = padS ls.flatten := by rw [HP2.out]; unfold padS; rw [HL.out]
          rw [hpad] at hown
          have hpl : (padS ls.flatten).length = m + 8 := by rw [← hpad, List.length_append, HPl.out]; rfl
          have hpx : ∀ x ∈ padS ls.flatten, x < 256 := by
            intro x hx
            rw [← hpad, HP2.out] at hx
            simp only [List.mem_append, List.mem_singleton, List.mem_replicate] at hx
            rcases hx with ((hx | hx) | hx) | hx
            · exact hlt x hx
            · omega
            · omega
            · simp only [lenS, List.mem_cons, List.not_mem_nil, or_false] at hx; omega
          have hq : (m + 8) % 64 = 0 := by have := HM.out; omega
          have HR2 : Hid (R = (blocksS beginS ((m + 8) / 64) (padS ls.flatten)).flatMap bytes4) := by rw [← hpl]; exact HR
          have HPL := Lib.hid hpl
          have HPX := Lib.hid hpx
          clear hpad hpl hpx HP2 HPl HR HM
          generalize padS ls.flatten = p at *
          have hbb : m + 8 ≤ 1099511627848 := by omega
          obtain ⟨qn, hqn⟩ : ∃ qn, m + 8 = 64 * qn := ⟨(m + 8) / 64, by omega⟩
          have hqd : (m + 8) / 64 = qn := by omega
          rw [hqd] at HR2
          have HQ := Lib.hid hqn
          clear hqn hqd hq hmb
          generalize m + 8 = M at *
          clear HF hF hn2
          go_wp2_with fail
          refine (begin_any _).mono ?_
          rintro e w5 ⟨rfl, hb5⟩
          have hZ5 := hZ.below hb5
          have hown5 := hown.below hb5
          have hbw5 := hb.trans (hb5.mono hb.size)
          have hl5 := hZ5.lt
          clear hown hZ hb hb5
          have hSlt := hown5.lt
          have hgs : ∀ ad, Ak = some ad → 0 < M → ad.block ≠ w5.heap.size := fun ad e h0 hne => by
            obtain ⟨ad', e', hm⟩ := hown5.addr h0
            rw [e] at e'
            injection e' with e'
            subst e'
            have := hSlt _ hm
            omega
          have hAk : Ak = none → qn = 0 := fun e => by
            rcases Nat.eq_zero_or_pos M with h0 | h0
            · have := HQ.out; omega
            · obtain ⟨ad', e', _⟩ := hown5.addr h0
              rw [e] at e'; cases e'
          have hrd5 := hown5.rd
          clear hown5 hSlt
          go_wp2_with (refine wpList_store_blk rfl 39 (.tmp 6) (.tmp 38) rfl w5.heap.size 39 _ (u32s beginS) rfl rfl (Blk.new w5 _ _) rfl info8 one_begin ?_; intro w6 hB6 hk6)
          have hne6 : w.heap.size ≠ w5.heap.size := by omega
          have hZ6 := (hZ5.alloc (.cells #[.int .u32 0, .int .u32 0, .int .u32 0, .int .u32 0, .int .u32 0, .int .u32 0, .int .u32 0, .int .u32 0] 39)).keeps hk6 (by simpa using hne6)
          have hbw6 : Below w.heap.size w w6 := (((Keeps.of_below (S := []) hbw5).alloc _).trans' hk6 (by simp; omega)).below
          have hrd6 : Rd w6 Ak (p.map bv) := by
            rcases Nat.eq_zero_or_pos M with h0 | h0
            · have : p = [] := List.eq_nil_of_length_eq_zero (by rw [HPL.out]; exact h0)
              rw [this]; exact Rd.nil _ _
            · exact (hrd5.alloc _).keeps hk6 (fun ad e => by simpa using hgs ad e h0)
          have hsg : w.heap.size < w5.heap.size := hl5
          clear hZ5 hbw5 hrd5 hk6 hl5
          generalize w5.heap.size = gs at *
          have H8 : Hid (beginS.length = 8) := rfl
          simp only [Act.put]
          go_loopw [3] (fun v wr => ∃ (q : Nat) (rest st : List Nat) (Ar : Option Addr) (cr : Nat), v = .slice Ar (64 * q) cr ∧ Hid (rest.length = 64 * q) ∧ Rd wr Ar (rest.map bv) ∧ (∀ x ∈ rest, x < 256) ∧ 64 * q ≤ cr ∧ cr ≤ maxLen ∧ Hid (st.length = 8) ∧
            Blk wr gs 39 (u32s st) ∧ Hid (blocksS beginS qn p = blocksS st q rest) ∧ (∀ ad, Ar = some ad → 0 < q → ad.block ≠ gs) ∧ (Ar = none → q = 0) ∧ 64 * q ≤ 1099511627848 ∧ Blk wr w.heap.size 24 (u8s (List.replicate 32 0)) ∧ Below w.heap.size w wr) (fun v _ => lenV v)
          case atStart =>
            rw [HQ.out] at hbb hc hgs HPL
            rw [HQ.out]
            exact ⟨qn, p, beginS, Ak, ck, rfl, HPL, hrd6, HPX.out, hc, hcm, H8, hB6, rfl, fun ad e h => hgs ad e (by omega), fun e => hAk e, hbb, hZ6, hbw6⟩
          case round =>
            clear hrd6 hB6 hZ6 hbw6
            obtain ⟨q, rest, st, Ar, cr, rfl, Hrl, hrd, hrx, hqc, hcm2, Hst, hB, HE, hgs2, hnil, hqb, hZ, hb⟩ := hrel
            by_cases hq0 : 0 < q
            · obtain ⟨q, rfl⟩ : ∃ z, q = z + 1 := ⟨q - 1, by omega⟩
              obtain ⟨ad, rfl⟩ : ∃ ad, Ar = some ad := by
                cases Ar with
                | none => have := hnil rfl; omega
                | some ad => exact ⟨ad, rfl⟩
              have z1 : (64 : Int) ≤ 64 * ((q : Int) + 1) := by omega
              have z2 : (64 : Int) ≤ (cr : Int) := by omega
              go_wp2_with fail
              have hrl := Hrl.out
              refine (take_any (some ad) cr gs st (rest.take 64) _ Hst.out hB (by rw [List.length_take]; omega) (by rw [List.map_take]; exact hrd.take 64) (fun x hx => hrx x (List.mem_of_mem_take hx))).mono ?_
              rintro e w7 ⟨rfl, hB7, hk7⟩
              have hZ7 := hZ.keeps hk7 (by simp; omega)
              have hbw7 : Below w.heap.size w w7 := ((Keeps.of_below (S := []) hb).trans' hk7 (by simp; omega)).below
              have hrd7 := hrd.keeps hk7 (fun ad e => by simpa using hgs2 ad e (by omega))
              have hE7 : blocksS beginS qn p = blocksS (blockS st (rest.take 64)) q (rest.drop 64) := HE.out
              have HE7 := Lib.hid hE7
              have HS7 := Lib.hid (blockS_len st (rest.take 64) Hst.out)
              have hrl7 : (rest.drop 64).length = 64 * q := by rw [List.length_drop]; omega
              have HL7 := Lib.hid hrl7
              have hx7 : ∀ x ∈ rest.drop 64, x < 256 := fun x hx => hrx x (List.mem_of_mem_drop hx)
              have hdr := hrd7.drop 64 (c := cr) (fun h => by
                have : (List.drop 64 (List.map bv rest)).length ≠ 0 := fun e => h (List.eq_nil_of_length_eq_zero e)
                rw [List.length_drop, List.length_map] at this
                omega)
              rw [← List.map_drop] at hdr
              clear hE7 hrl7 hrl hB hZ hb hk7 hrd hrd7 HE Hrl Hst hrx
              go_wp2_with fail
              refine ⟨⟨q, rest.drop 64, blockS st (rest.take 64), (if cr = 64 then some ad else some ⟨ad.block, ad.off + 64, none⟩), cr - 64, by rw [show 64 * (q + 1) - 64 = 64 * q by omega], HL7, by simpa [Addr.add] using hdr, hx7, by omega, by omega, HS7, hB7, HE7, fun ad' e h0 => ?_, fun e => ?_, by omega, hZ7, hbw7⟩, by simp only [lenV]; omega⟩
              · have h1 := hgs2 ad rfl (by omega)
                split at e <;> (injection e with e; subst e; exact h1)
              · split at e <;> cases e
            · obtain rfl : q = 0 := by omega
              rw [Nat.mul_zero]
              have hst : blocksS beginS qn p = st := HE.out
              have hR : R = st.flatMap bytes4 := by rw [HR2.out, hst]
              have HRL : Hid ((st.flatMap bytes4).length = 32) := by unfold Hid; rw [flat4_len, Hst.out]
              have HRR := Lib.hid hR
              have hbl := hB.lt
              have hzl := hZ.lt
              have hidx : ∀ (k : Nat) (W : World), k < 8 → (Instr.index 39 (.agg (u32s st)) (.int .i64 (k : Int))).run Try.prog W = .ok (.int .u32 ((st.getD k 0 : Nat) : Int)) W := fun k W hk =>
                run_index_arr W _ _ 8 _ _ k _ Try.underlying39 Try.isAgg37 Try.sizeOf37 hk (u32s_get (by rw [Hst.out]; exact hk))
              have HI := Lib.hid hidx
              have hi8 := Lib.hid (info8.trans (congrArg some ((u32s_size st).trans Hst.out).symm))
              clear hst hR HE HR2 hrd hgs2 hnil hqb hqc hcm2 Hrl hrx hidx
              go_wp2_with (refine wpList_load_blk rfl 39 (.tmp 6) rfl gs rfl 39 (u32s st) _ (hB.alloc _) Try.underlying39 rfl hi8.out ?_)
              have hO := Blk.new wr 24 (u8s (outS (st.flatMap bytes4) 0))
              have hZo := hZ.alloc (.cells (u8s (outS (st.flatMap bytes4) 0)) 24)
              have hbo : Below w.heap.size w (wr.alloc (.cells (u8s (outS (st.flatMap bytes4) 0)) 24)) := hb.alloc hb.size _
              have hgo : w.heap.size < wr.heap.size := hzl
              clear hB hZ hb hbl hzl hi8
              generalize wr.heap.size = go at *
              go_loopw [48] (fun i wr => ∃ k : Nat, k ≤ 8 ∧ i = .int .i64 k ∧ Blk wr go 24 (u8s (outS (st.flatMap bytes4) (4 * k))) ∧ Blk wr w.heap.size 24 (u8s (List.replicate 32 0)) ∧ Below w.heap.size w wr) (fun i _ => 8 - (intOf i).toNat)
              case atStart => exact ⟨0, by omega, rfl, hO, hZo, hbo⟩
              case round =>
                clear hO hZo hbo
                obtain ⟨wo, hwo⟩ : ∃ wo : World, wo = wr := ⟨_, rfl⟩
                clear hwo wo
                obtain ⟨k, hk, rfl, hO, hZ, hb⟩ := hrel
                by_cases hk8 : k < 8
                · have hix := fun W => HI.out k W hk8
                  have hfg := fun j (hj : j < 4) => flat_get st k j (by rw [Hst.out]; exact hk8) hj
                  have HFG := Lib.hid hfg
                  clear hfg
                  generalize st.getD k 0 = xv at *
                  go_wp2_with fail
                  clear hix
                  generalize hwr : wr = w9 at *
                  clear hwr
                  go_loopw [52] (fun i wr => ∃ j : Nat, j ≤ 4 ∧ i = .int .i64 j ∧ Blk wr go 24 (u8s (outS (st.flatMap bytes4) (4 * k + j))) ∧ Blk wr w.heap.size 24 (u8s (List.replicate 32 0)) ∧ Below w.heap.size w wr) (fun i _ => 4 - (intOf i).toNat)
                  case atStart => exact ⟨0, by omega, rfl, hO, hZ, hb⟩
                  case round =>
                    clear hO hZ hb
                    obtain ⟨j, hj, rfl, hO, hZ, hb⟩ := hrel
                    by_cases hj4 : j < 4
                    · have hv := HFG.out j hj4
                      have hset := hO.set (4 * k + j) (.int .u8 (((st.flatMap bytes4).getD (4 * k + j) 0 : Nat) : Int))
                      rw [outS_set HRL.out (by omega), hv] at hset
                      have hc0 : wr.cell? ⟨go, 4 * k + j, none⟩ = some (.int .u8 (((outS (st.flatMap bytes4) (4 * k + j)).getD (4 * k + j) 0 : Nat) : Int)) := by rw [hO.cell, u8s_get (by rw [outS_len HRL.out (by omega)]; omega)]
                      have hf0 := hO.frozen (4 * k + j)
                      generalize (outS (st.flatMap bytes4) (4 * k + j)).getD (4 * k + j) 0 = y at *
                      have i0 : (0 : Int) ≤ 24 - 8 * (j : Int) := by omega
                      have i1 : 24 - 8 * (j : Int) ≤ 32 := by omega
                      have i2 : 8 * (j : Int) ≤ 24 := by omega
                      have i3 : (4 * (k : Int) + (j : Int)) < 32 := by omega
                      have HS := Lib.hid hset
                      clear hset hv
                      go_wp2_with fail
                      have hcast : (xv : Int) / 2 ^ (24 - 8 * j) % 256 = ((xv / 2 ^ (24 - 8 * j) % 256 : Nat) : Int) := by rw [Int.natCast_emod, Int.natCast_ediv, Int.natCast_pow]; rfl
                      refine ⟨⟨j + 1, by omega, by go_num, by rw [hcast]; exact HS.out, hZ.far (p := ⟨go, 4 * k + j, none⟩) (by simp; omega) _, hb.setCell (by simp; omega) _⟩, by simp [intOf]; omega⟩
                    · obtain rfl : j = 4 := by omega
                      go_wp2_with fail
                      refine ⟨⟨k + 1, by omega, by go_num, hO, hZ, hb⟩, by simp [intOf]; omega⟩
                · obtain rfl : k = 8 := by omega
                  rw [outS_all HRL.out, ← HRR.out] at hO
                  have hRl : R.length = 32 := by rw [HRR.out]; exact HRL.out
                  have hi32 : (Try.prog.info? 24).map (·.size) = some (u8s R).size := by rw [u8s_size, hRl]; kernel_rfl
                  have HI2 := Lib.hid hi32
                  have HS2 : Hid ((u8s R).size = (u8s (List.replicate 32 0)).size) := by unfold Hid; rw [u8s_size, u8s_size, hRl]; rfl
                  have H1 := Lib.hid (u8s_one R)
                  clear hi32 hRl
                  go_wp2_with (first
                    | (refine wpList_load_blk rfl 24 (.tmp 7) rfl go rfl 24 (u8s R) _ hO Try.underlying24 rfl HI2.out ?_)
                    | (refine wpList_store_blk rfl 24 (.tmp 2) (.tmp 68) rfl w.heap.size 24 _ (u8s R) rfl rfl hZ HS2.out HI2.out H1.out ?_; intro w' hB' hk'))
                  refine post_blk rfl rfl w.heap.size 24 (u8s R) _ rfl hB' Try.underlying24 rfl HI2.out ⟨rfl, ?_⟩
                  exact ((Keeps.of_below (S := []) hb).trans' hk' (by simp)).below
end Go.Proofs.Ytkdkmnemmenikaa

/- Regions by types: sum.Of of parts. -/
namespace Go.Proofs.Ytkdkmnemmenikaa
open Go.RowKit


/-- A slice of parts, each bytes. -/
theorem parts_slT {w : World} {e : TypeId} {n : Nat} {v : Value} {ls : List (List Nat)} {τs : List Ty} (h : (Ty.slT e n τs).p w v) (hl : τs.length = ls.length) (hr : ∀ (i : Nat) (l : List Nat) (τ : Ty), ls[i]? = some l → τs[i]? = some τ → Reads τ l.length (l.map bv)) (hx : ∀ l ∈ ls, ∀ x ∈ l, x < 256) (hne : 0 < ls.length) :
    ∃ b o c, v = .slice (some ⟨b, o, none⟩) n c ∧ n ≤ c ∧ Parts w b o ls := by
  obtain ⟨A, c, rfl, h2, h3, h4, h5⟩ := h
  have h0 : 0 < τs.length := by omega
  obtain ⟨g, off, cs, fr, u, rfl, h7, h8, h9⟩ := h5 0 _ (List.getElem?_eq_getElem h0)
  refine ⟨g, off, c, rfl, h2, fun i l hi => ?_⟩
  have hil : i < τs.length := by have := (List.getElem?_eq_some_iff.1 hi).1; omega
  obtain ⟨g', off', cs', fr', u', e', k7, k8, k9⟩ := h5 i _ (List.getElem?_eq_getElem hil)
  injection e' with e'
  injection e' with e1 e2
  subst e1 e2
  rw [h7] at k7
  injection k7 with k7
  injection k7 with k7
  subst k7
  obtain ⟨B, d, hu, hm, hB, hrd⟩ := hr i l _ hi (List.getElem?_eq_getElem hil) w u' k9
  subst hu
  exact ⟨B, d, by rw [cell_of_row w g (off + i) cs e fr h7]; exact k8, hrd, fun e => List.eq_nil_of_length_eq_zero (hB e), hx l (List.mem_of_getElem? hi)⟩
theorem sumOf_ty {e : TypeId} (ls : List (List Nat)) (τs : List Ty) (hl : τs.length = ls.length) (hr : ∀ (i : Nat) (l : List Nat) (τ : Ty), ls[i]? = some l → τs[i]? = some τ → Reads τ l.length (l.map bv)) (hx : ∀ l ∈ ls, ∀ x ∈ l, x < 256) (hne : 0 < ls.length) (hlen : ls.flatten.length ≤ 1099511627776) (hn : ls.length ≤ 1099511627776) :
    Fn1 Try.prog 5 (Ty.slT e ls.length τs) (Ty.ex (.agg (u8s (shaL ls.flatten)))) :=
  ⟨fun args w => by kernel_rfl, fun w v hv => by
    obtain ⟨b, o, c, rfl, hc, hp⟩ := parts_slT hv hl hr hx hne
    exact Ret.of (Of_any _ b o ls.length c ls w rfl hc (fun _ => rfl) hp hlen hn)⟩
theorem sumOf1_ty {e : TypeId} {τ : Ty} (l : List Nat) (hτ : Reads τ l.length (l.map bv)) (hx : ∀ x ∈ l, x < 256) (hlen : l.length ≤ 1099511627776) : Fn1 Try.prog 5 (Ty.slT e 1 [τ]) (Ty.ex (.agg (u8s (shaL l)))) := by
  have h := sumOf_ty (e := e) [l] [τ] rfl (fun i k σ h1 h2 => by
    match i with
    | 0 => simp at h1 h2; subst h1 h2; exact hτ
    | i + 1 => simp at h1) (by simpa using hx) (by simp) (by simpa using hlen) (by simp)
  simpa using h
theorem sumOf2_ty {e : TypeId} {τ σ : Ty} (l k : List Nat) (hτ : Reads τ l.length (l.map bv)) (hσ : Reads σ k.length (k.map bv)) (hx : ∀ x ∈ l, x < 256) (hy : ∀ x ∈ k, x < 256) (hlen : l.length + k.length ≤ 1099511627776) : Fn1 Try.prog 5 (Ty.slT e 2 [τ, σ]) (Ty.ex (.agg (u8s (shaL (l ++ k))))) := by
  have h := sumOf_ty (e := e) [l, k] [τ, σ] rfl (fun i q υ h1 h2 => by
    match i with
    | 0 => simp at h1 h2; subst h1 h2; exact hτ
    | 1 => simp at h1 h2; subst h1 h2; exact hσ
    | i + 2 => simp at h1) (by
      intro q hq
      simp at hq
      rcases hq with rfl | rfl
      · exact hx
      · exact hy) (by simp) (by simpa using hlen) (by simp)
  simpa using h

def shaS (l : List Nat) : Sm := ⟨shaL l, shaL_len l, shaL_lt l⟩
end Go.Proofs.Ytkdkmnemmenikaa

/- A slice of bytes turned to a string; the strings of bytes. -/
namespace Go.Proofs.Ytkdkmnemmenikaa
open Go.RowKit

def strB (l : List Nat) : ByteArray := strOfNums (l.map Int.ofNat)
theorem run_string_rd {P : Program} (w : World) (src dst e : TypeId) (hs : P.underlying src = some (.slice e)) (he : P.underlying e = some (.int .u8)) (hd : P.underlying dst = some .string)
    (A : Option Addr) (n cap : Nat) (l : List Nat) (hl : l.length = n) (hr : Rd w A (l.map bv)) (hA : A = none → n = 0) :
    (convert src dst (.slice A n cap)).run P w = .ok (.string (strB l)) w := by
  cases A with
  | none =>
    have : l = [] := List.eq_nil_of_length_eq_zero (hl.trans (hA rfl))
    subst this
    exact run_convert_bytes_nil w src e hs he n cap dst hd
  | some a =>
    rw [run_convert_bytes_string w src dst e _ n cap hs he hd]
    have hb : l.map bv = (l.map Int.ofNat).map (Value.int .u8) := by rw [List.map_map]; rfl
    have hc := run_loadCells_list (P := P) w a (l.map bv) (fun j v hj => by
      obtain ⟨ad, e, h⟩ := hr j v hj
      injection e with e
      subst e
      exact h)
    rw [List.length_map, hl, hb] at hc
    rw [run_bytesToString w a n cap _ hc, foldl_push_bytes]
    simp [strB, strOfNums, ByteArray.empty, ByteArray.emptyWithCapacity]
    rfl
end Go.Proofs.Ytkdkmnemmenikaa

/- Digits of base sixteen, plainly. -/
namespace Go.Proofs.Ytkdkmnemmenikaa
open Go.RowKit

def hexd (n : Nat) : Nat := if n < 10 then 48 + n else 87 + n
def hexS : List Nat → List Nat
  | [] => []
  | c :: l => hexd (c / 16) :: hexd (c % 16) :: hexS l
theorem hexS_len : ∀ l : List Nat, (hexS l).length = 2 * l.length
  | [] => rfl
  | c :: l => by simp [hexS, hexS_len l]; omega
theorem hexS_append : ∀ a b : List Nat, hexS (a ++ b) = hexS a ++ hexS b
  | [], b => rfl
  | c :: a, b => by simp [hexS, hexS_append a b]
theorem hexd_lt {n : Nat} (h : n < 16) : hexd n < 256 := by unfold hexd; split <;> omega
end Go.Proofs.Ytkdkmnemmenikaa

/- A load of a known run, as a still step. -/
namespace Go.Proofs.Ytkdkmnemmenikaa
open Go.RowKit

end Go.Proofs.Ytkdkmnemmenikaa

/- Digits read back, plainly. -/
namespace Go.Proofs.Ytkdkmnemmenikaa
open Go.RowKit

def goodh (c : Nat) : Bool := (decide (48 ≤ c) && decide (c ≤ 57)) || (decide (97 ≤ c) && decide (c ≤ 102))
def hexv (c : Nat) : Nat := if c ≤ 57 then c - 48 else c - 87
theorem hexv_lt {c : Nat} (h : goodh c = true) : hexv c < 16 := by
  unfold goodh at h; unfold hexv
  simp only [Bool.or_eq_true, Bool.and_eq_true, decide_eq_true_eq] at h
  split <;> omega
/-- The bytes that the first i digits make. -/
def nibB (d : List Nat) (i j : Nat) : Nat := if 2 * j + 1 < i then hexv (d.getD (2 * j) 0) * 16 + hexv (d.getD (2 * j + 1) 0) else if 2 * j < i then hexv (d.getD (2 * j) 0) else 0
def nib (d : List Nat) (i : Nat) : List Nat := (List.range 32).map (nibB d i)
theorem nib_len (d : List Nat) (i : Nat) : (nib d i).length = 32 := by simp [nib]
theorem nib_get (d : List Nat) (i j : Nat) (h : j < 32) : (nib d i).getD j 0 = nibB d i j := by simp [nib, List.getD, h]
theorem nib_zero (d : List Nat) : nib d 0 = List.replicate 32 0 := by
  apply List.ext_getElem (by simp [nib])
  intro j h1 h2
  simp only [nib, List.getElem_map, List.getElem_range, List.getElem_replicate, nibB]
  rw [if_neg (by omega), if_neg (by omega)]
theorem nib_step (d : List Nat) (i : Nat) : (nib d i).set (i / 2) (nibB d i (i / 2) * 16 + hexv (d.getD i 0)) = nib d (i + 1) := by
  apply List.ext_getElem (by simp [nib])
  intro j h1 h2
  rw [List.getElem_set]
  simp only [nib, List.getElem_map, List.getElem_range]
  by_cases hj : i / 2 = j
  · subst hj
    rw [if_pos rfl]
    unfold nibB
    rcases Nat.mod_two_eq_zero_or_one i with h2 | h2
    · rw [if_neg (by omega), if_neg (by omega), if_neg (by omega), if_pos (by omega), show 2 * (i / 2) = i by omega]; omega
    · rw [if_neg (by omega), if_pos (by omega), if_pos (by omega), show 2 * (i / 2) + 1 = i by omega]
  · rw [if_neg hj]
    unfold nibB
    by_cases h1 : 2 * j + 1 < i
    · rw [if_pos h1, if_pos (by omega)]
    · by_cases h2 : 2 * j < i
      · rw [if_neg h1, if_pos h2, if_neg (by omega), if_pos (by omega)]
      · rw [if_neg h1, if_neg h2, if_neg (by omega), if_neg (by omega)]
theorem nibB_mid (d : List Nat) (i : Nat) (hg : ∀ j, j < i → goodh (d.getD j 0) = true) : nibB d i (i / 2) < 16 := by
  unfold nibB
  rw [if_neg (by omega)]
  split
  · exact hexv_lt (hg _ (by assumption))
  · omega
/-- A string's bytes. -/
def sB (s : ByteArray) : List Nat := s.data.toList.map UInt8.toNat
theorem sB_len (s : ByteArray) : (sB s).length = s.size := by simp [sB]
theorem sB_get (s : ByteArray) (k : Nat) (h : k < s.size) : (sB s).getD k 0 = (s[k]'h).toNat := by
  have hk : k < s.data.toList.length := by simpa using h
  simp [sB, List.getD, List.getElem?_map, List.getElem?_eq_getElem hk]
  rfl
def GoodAll (d : List Nat) : Prop := d.length = 64 ∧ ∀ j, j < 64 → goodh (d.getD j 0) = true
instance (d : List Nat) : Decidable (GoodAll d) := inferInstanceAs (Decidable (_ ∧ _))
/-- What a text of digits tells. -/
def parseL (d : List Nat) : List Nat := if GoodAll d then nib d 64 else List.replicate 32 0
def parseOk (d : List Nat) : Bool := decide (GoodAll d)
theorem parse_good {d : List Nat} (h : GoodAll d) : parseL d = nib d 64 ∧ parseOk d = true := ⟨if_pos h, decide_eq_true h⟩
theorem parse_bad {d : List Nat} (h : ¬ GoodAll d) : parseL d = List.replicate 32 0 ∧ parseOk d = false := ⟨if_neg h, decide_eq_false h⟩

/-- The results lie in a block and in a slot. -/
theorem post_blk_tmp {P : Program} {w : World} {fn : Func} {R : Ending → World → Prop} {a : Act} {p u : Tmp} {ty : TypeId} (hr : fn.results = #[.cell p ty, .tmp u]) (hd0 : a.defers = []) (g : Nat) (t : TypeId) (cs : Array Value) (d : TypeDesc) (v : Value)
    (hp : a.tmps.getD p undef = .pointer (some ⟨g, 0, none⟩)) (hB : Blk w g t cs)
    (hu : P.underlying ty = some d) (hd : (match d with | .struct _ | .array _ _ => true | _ => false) = true) (hi : (P.info? ty).map (·.size) = some cs.size) (hv : a.tmps.getD u undef = v)
    (h : R (.returned (.tuple #[.agg cs, v])) w) : bodyPost P fn R .ret a w := by
  refine bodyPost_ret ?_ hd0 h
  rw [results_cell_tmp hr, hp]
  simp only [asAddr, Sem.run_pure, Result.andThen_ok, run_loadVar_row w g t ty cs (0, 0) d hB hu hd hi, hv]
end Go.Proofs.Ytkdkmnemmenikaa

/- The library's contracts for strings.IndexByte, laid at this translation. -/
namespace Go.Proofs.Ytkdkmnemmenikaa
open Go.RowKit Go.Shelf

def lays137_ren : Go.Shelf.Ren := ⟨fun | 137 => 15 | 217 => 21 | 266 => 23 | n => n, fun | 9 => 9 | 5 => 5 | 3 => 3 | n => n, fun | n => n⟩
theorem lays137 : Go.Proofs.Lays.n137 Try.prog lays137_ren := {
  mixed := by kernel_rfl
  f137 := Try.func15.trans (congrArg some (by kernel_rfl))
  f217 := Try.func21.trans (congrArg some (by kernel_rfl))
  f266 := Try.func23.trans (congrArg some (by kernel_rfl))
  t3 := Try.underlying3
  a3 := Try.isAgg3
  z3 := Try.sizeOf3
  v3 := Try.zeroValue3
  t5 := Try.underlying5
  a5 := Try.isAgg5
  z5 := Try.sizeOf5
  v5 := Try.zeroValue5
  t9 := Try.underlying9
  a9 := Try.isAgg9
  z9 := Try.sizeOf9
  v9 := Try.zeroValue9 }

end Go.Proofs.Ytkdkmnemmenikaa

/- Sums laid on each other, plainly. -/
namespace Go.Proofs.Ytkdkmnemmenikaa
open Go.RowKit

def x8 (a b : Nat) : Nat := (a ^^^ b) % 256
theorem x8_eq (a b : Nat) : bits .xor .u8 (a : Int) (b : Int) = ((x8 a b : Nat) : Int) := by
  show IntKind.u8.wrap ((BitVec.ofInt 8 (a : Int) ^^^ BitVec.ofInt 8 (b : Int)).toNat : Int) = _
  rw [BitVec.toNat_xor, BitVec.ofInt_natCast, BitVec.ofInt_natCast, BitVec.toNat_ofNat, BitVec.toNat_ofNat, IntKind.wrap_u8']
  have h : a % 2 ^ 8 ^^^ b % 2 ^ 8 = (a ^^^ b) % 2 ^ 8 := (Nat.xor_mod_two_pow (n := 8)).symm
  unfold x8
  rw [h]
  omega
theorem x8_lt (a b : Nat) : x8 a b < 256 := Nat.mod_lt _ (by omega)
def xorL (x y : List Nat) : List Nat := List.zipWith x8 x y
theorem xorL_len {x y : List Nat} (h : x.length = y.length) : (xorL x y).length = x.length := by simp [xorL, h]
theorem xorL_lt (x y : List Nat) : ∀ z ∈ xorL x y, z < 256 := by
  intro z hz
  obtain ⟨i, hi, rfl⟩ := List.getElem_of_mem hz
  simp only [xorL, List.getElem_zipWith]
  exact x8_lt _ _
def Sm.xor (x y : Sm) : Sm := ⟨xorL x.l y.l, by rw [xorL_len (by rw [x.len, y.len]), x.len], xorL_lt _ _⟩
/-- x with y laid on its first k bytes. -/
def mix8 (x y : List Nat) (k : Nat) : List Nat := (xorL x y).take k ++ x.drop k
theorem mix8_len {x y : List Nat} {k : Nat} (hx : x.length = 32) (hy : y.length = 32) (hk : k ≤ 32) : (mix8 x y k).length = 32 := by
  unfold mix8; simp [xorL, hx, hy]; omega
theorem mix8_get {x y : List Nat} {k : Nat} (hx : x.length = 32) (hy : y.length = 32) (hk : k < 32) : (mix8 x y k).getD k 0 = x.getD k 0 := by
  have hl : ((xorL x y).take k).length = k := by simp [xorL, hx, hy]; omega
  unfold mix8
  rw [List.getD, List.getElem?_append_right (by omega), List.getElem?_drop, hl]
  simp [List.getD]
theorem mix8_set {x y : List Nat} {k : Nat} (hx : x.length = 32) (hy : y.length = 32) (hk : k < 32) : (u8s (mix8 x y k)).setIfInBounds k (.int .u8 ((x8 (x.getD k 0) (y.getD k 0) : Nat) : Int)) = u8s (mix8 x y (k + 1)) := by
  have hzl : (xorL x y).length = 32 := by simp [xorL, hx, hy]
  have hz : (xorL x y)[k]'(by omega) = x8 (x.getD k 0) (y.getD k 0) := by
    simp only [xorL, List.getElem_zipWith]
    simp [List.getD, List.getElem?_eq_getElem (show k < x.length by omega), List.getElem?_eq_getElem (show k < y.length by omega)]
  rw [u8s_set]
  unfold mix8
  have hl : ((xorL x y).take k).length = k := by rw [List.length_take]; omega
  rw [List.take_succ_eq_append_getElem (by omega), hz, List.set_append_right _ _ (by omega), hl, Nat.sub_self, List.drop_eq_getElem_cons (show k < x.length by omega), List.set_cons_zero, List.append_assoc]
  rfl
theorem mix8_all {x y : List Nat} (hx : x.length = 32) (hy : y.length = 32) : mix8 x y 32 = xorL x y := by
  unfold mix8; rw [List.take_of_length_le (by simp [xorL, hx, hy]), List.drop_of_length_le (by omega), List.append_nil]
end Go.Proofs.Ytkdkmnemmenikaa

/- The walks of Sum.Xor and Sum.Zero. -/
namespace Go.Proofs.Ytkdkmnemmenikaa
open Go.RowKit

theorem info32 : (Try.prog.info? 24).map (·.size) = some 32 := by kernel_rfl

set_option maxRecDepth 100000 in
set_option maxHeartbeats 1000000 in
theorem Xor_l (x y : List Nat) (hx : x.length = 32) (hy : y.length = 32) (w : World) :
    Calls Try.prog 11 #[.agg (u8s x), .agg (u8s y)] w fun e w' => e = .returned (.agg (u8s (xorL x y))) ∧ Below w.heap.size w w' := by
  have X := x8_eq
  have HX := Lib.hid hx
  have HY := Lib.hid hy
  have hR : (u8s (xorL x y)).size = 32 := by rw [u8s_size, xorL_len (by omega), hx]
  have HR := Lib.hid hR
  have HI := Lib.hid (info32.trans (congrArg some hR.symm))
  have H1 := Lib.hid (u8s_one (xorL x y))
  have HM := Lib.hid (mix8_all hx hy)
  clear hx hy hR
  generalize xorL x y = r at *
  go_enter Try.func11, Try.ntmps11
  go_wp2_with fail
  have h0 : Blk (((w.alloc (.cells (u8s x) 24)).alloc (.cells (u8s y) 24)).alloc (.cells (u8s (List.replicate 32 0)) 24)) w.heap.size 24 (u8s (mix8 x y 0)) := ((Blk.new w _ _).alloc _).alloc _
  have h1 : Blk (((w.alloc (.cells (u8s x) 24)).alloc (.cells (u8s y) 24)).alloc (.cells (u8s (List.replicate 32 0)) 24)) (w.heap.size + 1) 24 (u8s y) := (Blk.newAt (w.alloc _) _ _ _ (by simp)).alloc _
  have h2 : Blk (((w.alloc (.cells (u8s x) 24)).alloc (.cells (u8s y) 24)).alloc (.cells (u8s (List.replicate 32 0)) 24)) (w.heap.size + 1 + 1) 24 (u8s (List.replicate 32 0)) := Blk.newAt ((w.alloc _).alloc _) _ _ _ (by simp)
  have hb : Below w.heap.size w (((w.alloc (.cells (u8s x) 24)).alloc (.cells (u8s y) 24)).alloc (.cells (u8s (List.replicate 32 0)) 24)) := ((((Keeps.refl [] w).alloc _).alloc _).alloc _).below
  go_loopw [6] (fun i wr => ∃ k : Nat, k ≤ 32 ∧ i = .int .i64 k ∧ Blk wr w.heap.size 24 (u8s (mix8 x y k)) ∧ Blk wr (w.heap.size + 1) 24 (u8s y) ∧ Blk wr (w.heap.size + 1 + 1) 24 (u8s (List.replicate 32 0)) ∧ Below w.heap.size w wr) (fun i _ => 32 - (intOf i).toNat)
  case atStart => exact ⟨0, by omega, rfl, h0, h1, h2, hb⟩
  case round =>
    clear h0 h1 h2 hb
    obtain ⟨k, hk, rfl, h0, h1, h2, hb⟩ := hrel
    by_cases hk32 : k < 32
    · have c0 : wr.cell? ⟨w.heap.size, k, none⟩ = some (.int .u8 ((x.getD k 0 : Nat) : Int)) := by rw [h0.cell, u8s_get (by rw [mix8_len HX.out HY.out (by omega)]; exact hk32), mix8_get HX.out HY.out hk32]
      have c1 : wr.cell? ⟨w.heap.size + 1, k, none⟩ = some (.int .u8 ((y.getD k 0 : Nat) : Int)) := by rw [h1.cell, u8s_get (by rw [HY.out]; exact hk32)]
      have f0 := h0.frozen k
      have hS := h0.set k (.int .u8 ((x8 (x.getD k 0) (y.getD k 0) : Nat) : Int))
      rw [mix8_set HX.out HY.out hk32] at hS
      generalize x.getD k 0 = a at *
      generalize y.getD k 0 = b at *
      have r0 : (k : Int) < 32 := by omega
      have r1 : (0 : Int) ≤ (k : Int) := by omega
      go_wp2_with fail
      go_still_tail 8, (by kernel_rfl)
      go_wp2_with fail
      go_roundw
      case rel => exact ⟨k + 1, by omega, by go_num, hS.drew, (h1.far (p := ⟨w.heap.size, k, none⟩) (by simp) _).drew, (h2.far (p := ⟨w.heap.size, k, none⟩) (by simp; omega) _).drew, (hb.setCell (p := ⟨w.heap.size, k, none⟩) (by simp) _).drew⟩
      case measure => simp [intOf]; omega
    · obtain rfl : k = 32 := by omega
      rw [HM.out] at h0
      have HZ : Hid ((u8s r).size = (u8s (List.replicate 32 0)).size) := by unfold Hid; rw [HR.out, u8s_size]; rfl
      go_wp2_with (first
        | (refine wpList_load_blk rfl 24 (.tmp 2) rfl w.heap.size rfl 24 (u8s r) _ h0 Try.underlying24 rfl HI.out ?_)
        | (refine wpList_store_blk rfl 24 (.tmp 4) (.tmp 18) rfl (w.heap.size + 1 + 1) 24 _ (u8s r) rfl rfl h2 HZ.out HI.out H1.out ?_; intro w' hB' hk'))
      refine post_blk rfl rfl (w.heap.size + 1 + 1) 24 (u8s r) _ rfl hB' Try.underlying24 rfl HI.out ⟨rfl, ?_⟩
      exact ((Keeps.of_below (S := []) hb).trans' hk' (by simp; omega)).below
theorem Xor_any (x y : Sm) (w : World) :
    Calls Try.prog 11 #[.agg (u8s x.l), .agg (u8s y.l)] w fun e w' => e = .returned (.agg (u8s (x.xor y).l)) ∧ Below w.heap.size w w' := Xor_l x.l y.l x.len y.len w
end Go.Proofs.Ytkdkmnemmenikaa

/- append to a slice of bytes of the call's own. -/
namespace Go.Proofs.Ytkdkmnemmenikaa
open Go.RowKit

theorem info_byte : (Try.prog.info? 5).map (fun i => (i.zero, i.size, i.bytes)) = some (some (.int .u8 0), 1, 1) := by kernel_rfl
theorem bv_one (l : List Nat) : ∀ u ∈ l.map bv, u.oneCell' = true := by intro u hu; simp at hu; obtain ⟨x, _, rfl⟩ := hu; rfl

section
variable {ops : Array Oper} {rest : List Oper} {o : Oper} {a : Act} {w : World} {K : Act → World → Prop} {Q : Exit → Act → World → Prop}
theorem wp_app (s x : Operand) (ho : o.op = .call { callee := .builtin .append, args := #[s, x], argTypes := #[30, 30] })
    (v : Value) (n : Nat) (xs : List Value) (S : List Nat) (hs : a.eval s = v) (hown : Own w 1 v n xs S)
    (A : Option Addr) (m c : Nat) (l : List Nat) (hx : a.eval x = .slice A m c) (hl : l.length = m) (hr : Rd w A (l.map bv)) (hA : A = none → m = 0) (hn : n + m ≤ 140737488355328)
    (h : ∀ A' c' w' S', Own w' 1 (.slice A' (n + m) c') (n + m) (xs ++ l.map bv) S' → Keeps S w w' → (S' = S ∨ S' = [w.heap.size]) → n + m ≤ c' → c' ≤ maxLen → (A' = none → n + m = 0 ∧ c' = 0) → K (a.put o.dst (.slice A' (n + m) c')) w') : o.wp Try.prog a w K Q := by
  refine wp_append_ownc w s x 30 ho 5 (.int .u8 0) 1 1 Try.underlying30 info_byte rfl v n xs S hs hown A m c (l.map bv) hx (by simp [hl]) hr hA (bv_one l) (by unfold maxLen; omega) (by omega) ?_
  intro v' w' S' h1 h2 h3
  obtain ⟨A', c', rfl, h4, h5, _, h6⟩ := h1.form
  exact h A' c' w' S' h1 h2 h3 h4 h5 h6
end
end Go.Proofs.Ytkdkmnemmenikaa

/- The walk of Sum.Zero; == of sums. -/
namespace Go.Proofs.Ytkdkmnemmenikaa
open Go.RowKit

theorem zeros_lit : u8s (List.replicate 32 0) = #[.int .u8 0, .int .u8 0, .int .u8 0, .int .u8 0, .int .u8 0, .int .u8 0, .int .u8 0, .int .u8 0, .int .u8 0, .int .u8 0, .int .u8 0, .int .u8 0, .int .u8 0, .int .u8 0, .int .u8 0, .int .u8 0, .int .u8 0, .int .u8 0, .int .u8 0, .int .u8 0, .int .u8 0, .int .u8 0, .int .u8 0, .int .u8 0, .int .u8 0, .int .u8 0, .int .u8 0, .int .u8 0, .int .u8 0, .int .u8 0, .int .u8 0, .int .u8 0] := by kernel_rfl
theorem info_at : ∃ i, Try.prog.info? 5 = some i := by
  cases h : Try.prog.info? 5 with
  | none => have := info_byte; rw [h] at this; cases this
  | some i => exact ⟨i, rfl⟩
theorem eql_sum (x y : List Nat) (hx : x.length = 32) (hy : y.length = 32) (w : World) : (binOp .eql 24 (.agg (u8s x)) (.agg (u8s y))).run Try.prog w = .ok (.bool (decide (x = y))) w := by
  obtain ⟨i, hi⟩ := info_at
  exact run_eql_bytes _ _ 32 i Try.underlying24 hi (by kernel_rfl) Try.underlying5 Try.isAgg5 x y hx hy w
theorem Sm.eq_iff (x y : Sm) : (x.l = y.l) ↔ x = y := ⟨Sm.ext_l, fun h => by rw [h]⟩
theorem eql_sm (x y : Sm) (w : World) : (binOp .eql 24 (.agg (u8s x.l)) (.agg (u8s y.l))).run Try.prog w = .ok (.bool (decide (x = y))) w := by
  rw [eql_sum x.l y.l x.len y.len w]
  congr 2
  simp only [Sm.eq_iff]
theorem eql_zero (x : Sm) (w : World) : (binOp .eql 24 (.agg (u8s x.l)) (.agg #[.int .u8 0, .int .u8 0, .int .u8 0, .int .u8 0, .int .u8 0, .int .u8 0, .int .u8 0, .int .u8 0, .int .u8 0, .int .u8 0, .int .u8 0, .int .u8 0, .int .u8 0, .int .u8 0, .int .u8 0, .int .u8 0, .int .u8 0, .int .u8 0, .int .u8 0, .int .u8 0, .int .u8 0, .int .u8 0, .int .u8 0, .int .u8 0, .int .u8 0, .int .u8 0, .int .u8 0, .int .u8 0, .int .u8 0, .int .u8 0, .int .u8 0, .int .u8 0])).run Try.prog w = .ok (.bool (decide (x = Sm.zero))) w := by
  rw [← zeros_lit]
  exact eql_sm x Sm.zero w

set_option maxRecDepth 100000 in
theorem Zero_any (x : Sm) (w : World) :
    Calls Try.prog 8 #[.agg (u8s x.l)] w fun e w' => e = .returned (.bool (decide (x = Sm.zero))) ∧ Below w.heap.size w w' := by
  have heq := eql_zero x
  have hi := info32
  have hI := Lib.hid (hi.trans (congrArg some (((u8s_size x.l).trans x.len).symm)))
  clear hi
  generalize u8s x.l = xs at *
  generalize decide (x = Sm.zero) = r at *
  go_enter Try.func8, Try.ntmps8
  go_wp2_with (refine wpList_load_blk rfl 24 (.tmp 1) rfl w.heap.size rfl 24 xs _ (Blk.new w _ _) Try.underlying24 rfl hI.out ?_)
  go_ret
  exact ⟨rfl, ((Keeps.refl [] w).alloc _).below⟩
end Go.Proofs.Ytkdkmnemmenikaa

/- The walk of sum.Parse. -/
namespace Go.Proofs.Ytkdkmnemmenikaa
open Go.RowKit

theorem idx_all : ∀ c : Nat, c < 256 → Lib.indexByte [48, 49, 50, 51, 52, 53, 54, 55, 56, 57, 97, 98, 99, 100, 101, 102] c.toUInt8 = if goodh c then (hexv c : Int) else -1 := by decide +kernel
theorem idx_good (c : Nat) (hg : goodh c = true) (w : World) :
    Calls Try.prog 15 #[.string { data := #[48, 49, 50, 51, 52, 53, 54, 55, 56, 57, 97, 98, 99, 100, 101, 102] }, .int .u8 (c : Int)] w fun e w' => e = .returned (.int .i64 ((hexv c : Nat) : Int)) ∧ w = w' := by
  have hc : c < 256 := by unfold goodh at hg; simp only [Bool.or_eq_true, Bool.and_eq_true, decide_eq_true_eq] at hg; omega
  have h := idx_all c hc
  rw [if_pos hg] at h
  refine (Any.strings_IndexByte lays137 { data := #[48, 49, 50, 51, 52, 53, 54, 55, 56, 57, 97, 98, 99, 100, 101, 102] } (c : Int) w).mono ?_
  rintro e w' ⟨rfl, rfl⟩
  exact ⟨by rw [← h]; rfl, rfl⟩
theorem idx_bad (c : Nat) (hc : c < 256) (hg : goodh c = false) (w : World) :
    Calls Try.prog 15 #[.string { data := #[48, 49, 50, 51, 52, 53, 54, 55, 56, 57, 97, 98, 99, 100, 101, 102] }, .int .u8 (c : Int)] w fun e w' => e = .returned (.int .i64 (-1)) ∧ w = w' := by
  have h := idx_all c hc
  rw [if_neg (by rw [hg]; simp)] at h
  refine (Any.strings_IndexByte lays137 { data := #[48, 49, 50, 51, 52, 53, 54, 55, 56, 57, 97, 98, 99, 100, 101, 102] } (c : Int) w).mono ?_
  rintro e w' ⟨rfl, rfl⟩
  exact ⟨by rw [← h]; rfl, rfl⟩
theorem str_at (s : ByteArray) (k : Nat) (h : k < s.size) (W : World) : (Instr.index 9 (.string s) (.int .i64 (k : Int))).run Try.prog W = .ok (.int .u8 (((sB s).getD k 0 : Nat) : Int)) W := by
  rw [run_index_string W _ s _ _ Try.underlying9, dif_pos ⟨by omega, by omega⟩, sB_get s k h]
  simp
theorem good_ascii {c : Nat} (h : goodh c = true) : c < 128 := by unfold goodh at h; simp only [Bool.or_eq_true, Bool.and_eq_true, decide_eq_true_eq] at h; omega

theorem or_nib (y n : Nat) (hy : y < 16) (hn : n < 16) : bits .or .u8 ((y : Int) * 16) (n : Int) = ((y * 16 + n : Nat) : Int) := by
  have hy : y = 0 ∨ y = 1 ∨ y = 2 ∨ y = 3 ∨ y = 4 ∨ y = 5 ∨ y = 6 ∨ y = 7 ∨ y = 8 ∨ y = 9 ∨ y = 10 ∨ y = 11 ∨ y = 12 ∨ y = 13 ∨ y = 14 ∨ y = 15 := by omega
  have hn : n = 0 ∨ n = 1 ∨ n = 2 ∨ n = 3 ∨ n = 4 ∨ n = 5 ∨ n = 6 ∨ n = 7 ∨ n = 8 ∨ n = 9 ∨ n = 10 ∨ n = 11 ∨ n = 12 ∨ n = 13 ∨ n = 14 ∨ n = 15 := by omega
  rcases hy with rfl | rfl | rfl | rfl | rfl | rfl | rfl | rfl | rfl | rfl | rfl | rfl | rfl | rfl | rfl | rfl <;> rcases hn with rfl | rfl | rfl | rfl | rfl | rfl | rfl | rfl | rfl | rfl | rfl | rfl | rfl | rfl | rfl | rfl <;> decide +kernel

set_option maxRecDepth 100000 in
set_option maxHeartbeats 2000000 in
theorem Parse_any (s : ByteArray) (w : World) :
    Calls Try.prog 6 #[.string s] w fun e w' => e = .returned (.tuple #[.agg (u8s (parseL (sB s))), .bool (parseOk (sB s))]) ∧ Below w.heap.size w w' := by
  have hlen := sB_len s
  have HLEN := Lib.hid hlen
  have hi0 := Lib.hid (info32.trans (congrArg some ((u8s_size (List.replicate 32 0)).trans (by simp : (List.replicate 32 0).length = 32)).symm))
  have ho0 := u8s_one (List.replicate 32 0)
  have hz0 := zeros_lit
  have HZ0 := Lib.hid hz0
  clear hz0 hlen
  by_cases h64 : s.size = 64
  · have hne : (((s.size : Nat) : Int) == 64) = true := by rw [beq_iff_eq]; omega
    have hne2 : (((s.size : Nat) : Int) != 64) = false := by rw [bne_eq_false_iff_eq]; omega
    have H64 := Lib.hid h64
    clear h64
    generalize hPL : parseL (sB s) = PL
    generalize hPO : parseOk (sB s) = PO
    have HPL := Lib.hid hPL
    have HPO := Lib.hid hPO
    clear hPL hPO
    go_enter Try.func6, Try.ntmps6
    go_wp2_with fail
    have hZ0 : Blk (((w.alloc (.cells (u8s (List.replicate 32 0)) 24)).alloc (.cells (u8s (List.replicate 32 0)) 24)).iter s 0) w.heap.size 24 (u8s (List.replicate 32 0)) := ((Blk.new w _ _).alloc _).alloc _
    have hB0 : Blk (((w.alloc (.cells (u8s (List.replicate 32 0)) 24)).alloc (.cells (u8s (List.replicate 32 0)) 24)).iter s 0) (w.heap.size + 1) 24 (u8s (nib (sB s) 0)) := by
      rw [nib_zero]; exact (Blk.newAt (w.alloc _) _ _ _ (by simp)).alloc _
    have hI0 : (((w.alloc (.cells (u8s (List.replicate 32 0)) 24)).alloc (.cells (u8s (List.replicate 32 0)) 24)).iter s 0).heap[w.heap.size + 1 + 1]? = some (.stringIter s 0) := by
      have h := World.iter_heap ((w.alloc (.cells (u8s (List.replicate 32 0)) 24)).alloc (.cells (u8s (List.replicate 32 0)) 24)) s 0
      simpa using h
    have hb0 : Below w.heap.size w (((w.alloc (.cells (u8s (List.replicate 32 0)) 24)).alloc (.cells (u8s (List.replicate 32 0)) 24)).iter s 0) := ((((Keeps.refl [] w).alloc _).alloc _).alloc _).below
    go_loopw [5] (fun _ wr => ∃ k : Nat, k ≤ 64 ∧ Hid (∀ j, j < k → goodh ((sB s).getD j 0) = true) ∧ wr.heap[w.heap.size + 1 + 1]? = some (.stringIter s k) ∧ Blk wr w.heap.size 24 (u8s (List.replicate 32 0)) ∧ Blk wr (w.heap.size + 1) 24 (u8s (nib (sB s) k)) ∧ Below w.heap.size w wr) (fun _ wr => 64 - wr.iterPos (w.heap.size + 1 + 1))
    case atStart => exact ⟨0, by omega, by unfold Hid; intro j hj; omega, hI0, hZ0, hB0, hb0⟩
    case round =>
      clear hI0 hZ0 hB0 hb0 hne hne2
      obtain ⟨k, hk, HG, hI, hZ, hB, hb⟩ := hrel
      by_cases hk64 : k < 64
      · have hks : k < s.size := by rw [H64.out]; exact hk64
        have hnx : ∀ ty, (Instr.next (.pointer (some ⟨w.heap.size + 1 + 1, 0, none⟩)) true ty).run Try.prog wr = _ := fun ty => Lib.run_next_any_at wr (w.heap.size + 1 + 1) s k ty hI hks
        obtain ⟨w2, hw2⟩ : ∃ w2, w2 = wr.iterAt (w.heap.size + 1 + 1) s (k + (Utf8.decode s k).2) := ⟨_, rfl⟩
        have hI2 : w2.heap[w.heap.size + 1 + 1]? = some (.stringIter s (k + (Utf8.decode s k).2)) := by rw [hw2]; exact Lib.iterAt_heap wr _ s k _ hI
        have hZ2 : Blk w2 w.heap.size 24 (u8s (List.replicate 32 0)) := by rw [hw2]; exact (Lib.iterAt_other wr _ _ s _ (by omega)).trans hZ
        have hB2 : Blk w2 (w.heap.size + 1) 24 (u8s (nib (sB s) k)) := by rw [hw2]; exact (Lib.iterAt_other wr _ _ s _ (by omega)).trans hB
        have hb2 : Below w.heap.size w w2 := by rw [hw2]; exact Lib.below_iterAt hb (by omega) s _
        rw [← hw2] at hnx
        have hat := fun W => str_at s k hks W
        have hc256 : (sB s).getD k 0 < 256 := by rw [sB_get s k hks]; exact (s[k]).toNat_lt
        have hpos : wr.iterPos (w.heap.size + 1 + 1) = k := by unfold World.iterPos; rw [hI]
        have HPOS := Lib.hid hpos
        clear hI hZ hB hb hw2 hpos
        have HS := nib_step (sB s) k
        have HS := Lib.hid HS
        by_cases hg : goodh ((sB s).getD k 0) = true
        · have hdec : Utf8.decode s k = ((s[k]'hks).toNat, 1) := decode_ascii s k hks (by rw [← sB_get s k hks]; exact good_ascii hg)
          have hd1 : (Utf8.decode s k).2 = 1 := by rw [hdec]
          rw [hd1] at hI2
          have hcell : w2.cell? ⟨w.heap.size + 1, k / 2, none⟩ = some (.int .u8 ((nibB (sB s) k (k / 2) : Nat) : Int)) := by rw [hB2.cell, u8s_get (by rw [nib_len]; omega), nib_get _ _ _ (by omega)]
          have hfr := hB2.frozen (k / 2)
          have hy := nibB_mid (sB s) k HG.out
          have HG2 : Hid (∀ j, j < k + 1 → goodh ((sB s).getD j 0) = true) := by
            unfold Hid; intro j hj
            rcases Nat.lt_succ_iff_lt_or_eq.1 hj with h | h
            · exact HG.out j h
            · subst h; exact hg
          have hst := hB2.set (k / 2) (.int .u8 ((nibB (sB s) k (k / 2) * 16 + hexv ((sB s).getD k 0) : Nat) : Int))
          rw [u8s_set, HS.out] at hst
          have HST := Lib.hid hst
          have hn := hexv_lt hg
          have hq : (k : Int) / 2 = ((k / 2 : Nat) : Int) := by omega
          have hqb : k / 2 < 32 := by omega
          have hgd := idx_good _ hg
          have HGD := Lib.hid hgd
          clear hdec hd1 hst HS hB2 hg hgd
          generalize nibB (sB s) k (k / 2) = y at *
          generalize (Utf8.decode s k).1 = rune at *
          generalize (sB s).getD k 0 = c at *
          generalize hexv c = n at *
          generalize k / 2 = q at *
          have hor := or_nib y n hy hn
          have hwn : IntKind.u8.wrap (n : Int) = (n : Int) := by rw [IntKind.wrap_u8']; omega
          have q32 : (q : Int) < 32 := by omega
          have n0 : decide ((n : Int) < 0) = false := by rw [decide_eq_false_iff_not]; omega
          go_wp2_with fail
          refine (HGD.out _).mono ?_
          rintro e w3 ⟨rfl, rfl⟩
          go_wp2_with fail
          have hI3 : (w2.setCell ⟨w.heap.size + 1, q, none⟩ (.int .u8 ((y * 16 + n : Nat) : Int))).heap[w.heap.size + 1 + 1]? = some (.stringIter s (k + 1)) := by simpa [World.setCell, Array.getElem?_modify] using hI2
          have hP3 : (w2.setCell ⟨w.heap.size + 1, q, none⟩ (.int .u8 ((y * 16 + n : Nat) : Int))).iterPos (w.heap.size + 1 + 1) = k + 1 := by unfold World.iterPos; rw [hI3]
          exact ⟨⟨k + 1, by omega, HG2, hI3, hZ2.far (p := ⟨w.heap.size + 1, q, none⟩) (by simp) _, HST.out, hb2.setCell (p := ⟨w.heap.size + 1, q, none⟩) (by simp) _⟩, by rw [HPOS.out]; have h := hP3; simp only [Int.natCast_add, Int.natCast_mul, Int.cast_ofNat_Int] at h; rw [h]; omega⟩
        · have hgf : goodh ((sB s).getD k 0) = false := by simpa using hg
          have hbad := parse_bad (d := sB s) (fun h => hg (h.2 k hk64))
          rw [HPL.out, HPO.out] at hbad
          have HB1 := Lib.hid hbad.1
          have HB2 := Lib.hid hbad.2
          have hgd := idx_bad _ hc256 hgf
          have HGD := Lib.hid hgd
          have hZ2l := HZ0.out
          have HZL := Lib.hid hZ2l
          clear HS hB2 hg hgd hgf hbad HG hZ2l
          generalize (Utf8.decode s k).1 = rune at *
          generalize (sB s).getD k 0 = c at *
          go_wp2_with fail
          refine (HGD.out _).mono ?_
          rintro e w3 ⟨rfl, rfl⟩
          have hob := ho0
          rw [HZ0.out] at hob
          go_wp2_with (refine wpList_store_blk rfl 24 (.tmp 2) (.tmp 22) rfl w.heap.size 24 _ _ rfl rfl hZ2 rfl info32 hob ?_; intro w' hB' hk')
          rw [← HZ0.out] at hB'
          refine post_blk_tmp rfl rfl w.heap.size 24 (u8s (List.replicate 32 0)) _ (.bool false) rfl hB' Try.underlying24 rfl hi0.out rfl ⟨by rw [HB1.out, HB2.out], ?_⟩
          exact ((Keeps.of_below (S := []) hb2).trans' hk' (by simp)).below
      · obtain rfl : k = 64 := by omega
        have hgood := parse_good (d := sB s) ⟨by rw [HLEN.out, H64.out], HG.out⟩
        rw [HPL.out, HPO.out] at hgood
        have HB1 := Lib.hid hgood.1
        have HB2 := Lib.hid hgood.2
        have hks : ¬ 64 < s.size := by rw [H64.out]; omega
        have hnx : ∀ ty, (Instr.next (.pointer (some ⟨w.heap.size + 1 + 1, 0, none⟩)) true ty).run Try.prog wr = _ := fun ty => Lib.run_next_end_at wr (w.heap.size + 1 + 1) s 64 ty hI hks
        have hl := nib_len (sB s) 64
        have hi1 := Lib.hid (info32.trans (congrArg some ((u8s_size (nib (sB s) 64)).trans hl).symm))
        have ho1 := u8s_one (nib (sB s) 64)
        have hs1 : Hid ((u8s (nib (sB s) 64)).size = (u8s (List.replicate 32 0)).size) := by unfold Hid; rw [u8s_size, u8s_size, hl]; rfl
        clear hgood hks hl HG HLEN
        generalize nib (sB s) 64 = R at *
        go_wp2_with (first
          | (refine wpList_load_blk rfl 24 (.tmp 4) rfl (w.heap.size + 1) rfl 24 (u8s R) _ hB Try.underlying24 rfl hi1.out ?_)
          | (refine wpList_store_blk rfl 24 (.tmp 2) (.tmp 34) rfl w.heap.size 24 _ (u8s R) rfl rfl hZ hs1.out hi1.out ho1 ?_; intro w' hB' hk'))
        refine post_blk_tmp rfl rfl w.heap.size 24 (u8s R) _ (.bool true) rfl hB' Try.underlying24 rfl hi1.out rfl ⟨by rw [HB1.out, HB2.out], ?_⟩
        exact ((Keeps.of_below (S := []) hb).trans' hk' (by simp)).below
  · have hp := parse_bad (d := sB s) (fun h => h64 (by rw [← HLEN.out]; exact h.1))
    rw [hp.1, hp.2]
    have hne : (((s.size : Nat) : Int) == 64) = false := by rw [beq_eq_false_iff_ne]; omega
    have hne2 : (((s.size : Nat) : Int) != 64) = true := by rw [bne_iff_ne]; omega
    clear h64 hp
    go_enter Try.func6, Try.ntmps6
    go_wp2_with (first
      | (refine wpList_load_blk rfl 24 (.tmp 4) rfl (w.heap.size + 1) rfl 24 (u8s (List.replicate 32 0)) _ (Blk.newAt (w.alloc _) _ _ _ (by simp)) Try.underlying24 rfl hi0.out ?_)
      | (refine wpList_store_blk rfl 24 (.tmp 2) (.tmp 10) rfl w.heap.size 24 _ (u8s (List.replicate 32 0)) rfl rfl ((Blk.new w _ _).alloc _) rfl hi0.out ho0 ?_; intro w' hB' hk'))
    refine post_blk_tmp rfl rfl w.heap.size 24 (u8s (List.replicate 32 0)) _ _ rfl hB' Try.underlying24 rfl hi0.out rfl ⟨rfl, ?_⟩
    exact ((((Keeps.refl [] w).alloc _).alloc _).trans' hk' (by simp)).below
end Go.Proofs.Ytkdkmnemmenikaa

/- Rows of bytes compared: plainly. -/
namespace Go.Proofs.Ytkdkmnemmenikaa

def cmpL : List Nat → List Nat → Int
  | [], [] => 0
  | [], _ :: _ => -1
  | _ :: _, [] => 1
  | a :: x, b :: y => if a < b then -1 else if b < a then 1 else cmpL x y
end Go.Proofs.Ytkdkmnemmenikaa

/- Sums compared by their bytes: plainly; the walks of bytes.Compare and Sum.Cmp. -/
namespace Go.Proofs.Ytkdkmnemmenikaa
open Go.RowKit

theorem cmpL_bytes : ∀ (x y : List Nat), (∀ a ∈ x, a < 256) → (∀ a ∈ y, a < 256) → Lib.compareBytes (bytesU x) (bytesU y) = cmpL x y
  | [], [], _, _ => rfl
  | [], _ :: _, _, _ => rfl
  | _ :: _, [], _, _ => rfl
  | a :: x, b :: y, hx, hy => by
    have ih := cmpL_bytes x y (fun z hz => hx z (by simp [hz])) (fun z hz => hy z (by simp [hz]))
    have ha := u8_toNat (hx a (by simp))
    have hb := u8_toNat (hy b (by simp))
    have h1 : (UInt8.ofNat a < UInt8.ofNat b) ↔ a < b := by rw [UInt8.lt_iff_toNat_lt, ha, hb]
    have h2 : (UInt8.ofNat b < UInt8.ofNat a) ↔ b < a := by rw [UInt8.lt_iff_toNat_lt, ha, hb]
    show (if UInt8.ofNat a < UInt8.ofNat b then (-1 : Int) else if UInt8.ofNat b < UInt8.ofNat a then 1 else Lib.compareBytes (bytesU x) (bytesU y)) = _
    rw [ih]
    simp only [h1, h2, cmpL]

theorem run_bytesOf_rd {P : Program} (w : World) (A : Option Addr) (n cap : Nat) (l : List Nat) (hl : l.length = n) (hr : Rd w A (l.map bv)) (hA : A = none → n = 0) (hx : ∀ x ∈ l, x < 256) :
    (Extern.Bytes.bytesOf (.slice A n cap)).run P w = .ok ⟨(bytesU l).toArray⟩ w := by
  cases A with
  | none =>
    have : l = [] := List.eq_nil_of_length_eq_zero (by rw [hl]; exact hA rfl)
    subst this
    rfl
  | some a =>
    subst hl
    have h := Lib.run_loadBytesX (P := P) w (l.map Int.ofNat) a .empty (fun j x hj => by
      rw [List.getElem?_map] at hj
      obtain ⟨y, hy, rfl⟩ := Option.map_eq_some_iff.1 hj
      obtain ⟨ad, e, hc⟩ := hr j (bv y) (by rw [List.getElem?_map, hy]; rfl)
      injection e with e
      subst e
      exact hc)
    rw [List.length_map] at h
    have e : Lib.bytesOf (l.map Int.ofNat) = bytesU l := by
      unfold Lib.bytesOf bytesU
      rw [List.map_map]
      apply List.map_congr_left
      intro x _
      rfl
    rw [e] at h
    simp only [Extern.Bytes.bytesOf]
    rw [h]
    congr 1
    apply ByteArray.ext
    simp
set_option maxRecDepth 100000 in
theorem Compare_any (A B : Option Addr) (n m c d : Nat) (x y : List Nat) (w : World) (hx : x.length = n) (hy : y.length = m) (hr1 : Rd w A (x.map bv)) (hr2 : Rd w B (y.map bv)) (hA : A = none → n = 0) (hB : B = none → m = 0) (h1 : ∀ a ∈ x, a < 256) (h2 : ∀ a ∈ y, a < 256) :
    Calls Try.prog 16 #[.slice A n c, .slice B m d] w fun e w' => e = .returned (.int .i64 (cmpL x y)) ∧ w' = w := by
  have hrun : (Extern.BytealgCompare.compare #[.slice A n c, .slice B m d]).run Try.prog w = .ok (.int .i64 (cmpL x y)) w := by
    change Sem.run Try.prog (do pure (goInt (Extern.BytealgCompare.cmp (← Extern.Bytes.bytesOf (.slice A n c)) (← Extern.Bytes.bytesOf (.slice B m d))))) w = _
    rw [Sem.run_bind, run_bytesOf_rd w A n c x hx hr1 hA h1]
    simp only [Result.andThen_ok]
    rw [Sem.run_bind, run_bytesOf_rd w B m d y hy hr2 hB h2]
    simp only [Result.andThen_ok, Sem.run_pure]
    rw [Lib.cmp_eq, ← cmpL_bytes x y h1 h2]
    rfl
  have HR := Lib.hid hrun
  clear hrun
  go_enter Try.func16, Try.ntmps16
  go_wp2
  rw [run_callFunc_extern Try.func22 (by kernel_rfl) (by kernel_rfl) (by kernel_rfl) (e := Extern.BytealgCompare.compare) (by kernel_rfl), HR.out]
  simp only [Result.andThen]
  rw [Oper.upon_value]
  go_wp2
  go_ret
  exact ⟨rfl, rfl⟩
end Go.Proofs.Ytkdkmnemmenikaa
