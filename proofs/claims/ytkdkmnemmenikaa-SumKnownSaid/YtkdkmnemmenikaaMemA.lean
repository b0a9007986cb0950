/- Words for memory: whole arrays and structs loaded from and stored into a block that is known whole; a function's result that lies in such a block. -/
import Derived.Test.YtkdkmnemmenikaaMem
import Derived.Deep.MidRow
import Derived.Laws.Rows
import Derived.Tactics
namespace Go.Proofs.Ytkdkmnemmenikaa
open Go.RowKit

/-- cs with vs written over it from o on. -/
def splice (cs : Array Value) : Nat → List Value → Array Value
  | _, [] => cs
  | o, v :: vs => splice (cs.setIfInBounds o v) (o + 1) vs
theorem splice_size (vs : List Value) : ∀ (cs : Array Value) (o : Nat), (splice cs o vs).size = cs.size := by
  induction vs with
  | nil => intro cs o; rfl
  | cons v vs ih => intro cs o; rw [splice, ih]; simp
theorem splice_get (vs : List Value) : ∀ (cs : Array Value) (o j : Nat), o + vs.length ≤ cs.size → (splice cs o vs)[j]? = if o ≤ j ∧ j < o + vs.length then vs[j - o]? else cs[j]? := by
  induction vs with
  | nil => intro cs o j _; rw [splice, if_neg (by simp)]
  | cons v vs ih =>
    intro cs o j h
    simp only [List.length_cons] at h ⊢
    rw [splice, ih _ _ _ (by simp; omega)]
    by_cases h1 : o + 1 ≤ j ∧ j < o + 1 + vs.length
    · rw [if_pos h1, if_pos (by omega), show j - o = (j - (o + 1)) + 1 by omega, List.getElem?_cons_succ]
    · rw [if_neg h1]
      by_cases h2 : j = o
      · subst h2; rw [if_pos (by omega), Nat.sub_self, Array.getElem?_setIfInBounds_self, if_pos (by omega)]; rfl
      · rw [if_neg (by omega), Array.getElem?_setIfInBounds_ne (by omega)]
theorem splice_all (cs : Array Value) (vs : List Value) (h : vs.length = cs.size) : splice cs 0 vs = vs.toArray := by
  apply Array.ext_getElem?
  intro j
  rw [splice_get _ _ _ _ (by omega)]
  by_cases hj : j < vs.length
  · rw [if_pos (by omega), Nat.sub_zero]; simp
  · rw [if_neg (by omega), Array.getElem?_eq_none (by omega), Array.getElem?_eq_none (by simp; omega)]

theorem Blk.setCells {g : Nat} {t : TypeId} (vs : List Value) : ∀ {w : World} {cs : Array Value} (o : Nat), Blk w g t cs → Blk (w.setCells g o vs) g t (splice cs o vs) := by
  induction vs with
  | nil => intro w cs o h; exact h
  | cons v vs ih => intro w cs o h; exact ih (o + 1) (h.set o v)
theorem Keeps.setCells {S : List Nat} {a : World} {g : Nat} (hg : g ∈ S ∨ a.heap.size ≤ g) (vs : List Value) : ∀ {w : World} (o : Nat), Keeps S a w → Keeps S a (w.setCells g o vs) := by
  induction vs with
  | nil => intro w o h; exact h
  | cons v vs ih => intro w o h; exact ih (o + 1) (h.setCell (p := ⟨g, o, none⟩) v hg)
theorem Blk.there {w : World} {g : Nat} {t : TypeId} {cs : Array Value} (h : Blk w g t cs) {o n : Nat} (hn : o + n ≤ cs.size) : w.there g o n := fun j hj => by
  refine ⟨?_, h.frozen _⟩
  rw [h.cell]
  simp
  omega

theorem below_drewN {B : Nat} {a w : World} (h : Below B a w) (n : Nat) : Below B a (w.drewN n) := ⟨h.os, h.tape, h.output, h.size, h.block⟩

section
variable {P : Program} {w : World}
/-- A whole value is stored over a whole block. -/
theorem wp_store_blk {o : Oper} {a : Act} {K : Act → World → Prop} {Q : Exit → Act → World → Prop} (ty : TypeId) (x y : Operand) (ho : o.op = .store ty x y)
    (g : Nat) (t : TypeId) (cs cells : Array Value) (hx : a.eval x = .pointer (some ⟨g, 0, none⟩)) (hy : a.eval y = .agg cells)
    (hB : Blk w g t cs) (hs : cells.size = cs.size) (hi : (P.info? ty).map (·.size) = some cells.size) (h1 : cells.all (·.oneCell') = true)
    (h : ∀ w', Blk w' g t cells → Keeps [g] w w' → K (a.put o.dst undef) w') : o.wp P a w K Q := by
  refine wp_store_mid ty x y ho g 0 cells hx hy (hB.there (by omega)) hi h1 (h _ ?_ (Keeps.setCells (.inl (by simp)) _ _ (Keeps.refl _ _)))
  have := hB.setCells cells.toList 0
  rwa [splice_all _ _ (by simpa using hs)] at this
theorem wpList_store_blk {ops : Array Oper} {rest : List Oper} {o : Oper} {a : Act} {Q : Exit → Act → World → Prop} (hgd : o.guard = none) (ty : TypeId) (x y : Operand) (ho : o.op = .store ty x y)
    (g : Nat) (t : TypeId) (cs cells : Array Value) (hx : a.eval x = .pointer (some ⟨g, 0, none⟩)) (hy : a.eval y = .agg cells)
    (hB : Blk w g t cs) (hs : cells.size = cs.size) (hi : (P.info? ty).map (·.size) = some cells.size) (h1 : cells.all (·.oneCell') = true)
    (h : ∀ w', Blk w' g t cells → Keeps [g] w w' → wpList P ops Q rest (a.put o.dst undef) w') : wpList P ops Q (o :: rest) a w :=
  wpList_plain hgd fun _ hK => wp_store_blk ty x y ho g t cs cells hx hy hB hs hi h1 fun w' h2 h3 => hK _ _ (h w' h2 h3)
/-- A whole block is loaded. -/
theorem wpList_load_blk {ops : Array Oper} {rest : List Oper} {o : Oper} {a : Act} {Q : Exit → Act → World → Prop} (hgd : o.guard = none) (ty : TypeId) (x : Operand) (ho : o.op = .load ty x)
    (g : Nat) (hx : a.eval x = .pointer (some ⟨g, 0, none⟩)) (t : TypeId) (cs : Array Value) (d : TypeDesc) (hB : Blk w g t cs)
    (hu : P.underlying ty = some d) (hd : (match d with | .struct _ | .array _ _ => true | _ => false) = true) (hi : (P.info? ty).map (·.size) = some cs.size)
    (h : wpList P ops Q rest (a.put o.dst (.agg cs)) w) : wpList P ops Q (o :: rest) a w :=
  wpList_load_row hgd ty x ho g hx t cs (0, 0) d hB hu hd hi h
/-- The result lies in a block. -/
theorem post_blk {fn : Func} {R : Ending → World → Prop} {a : Act} {p : Tmp} {ty : TypeId} (hr : fn.results = #[.cell p ty]) (hd0 : a.defers = []) (g : Nat) (t : TypeId) (cs : Array Value) (d : TypeDesc)
    (hp : a.tmps.getD p undef = .pointer (some ⟨g, 0, none⟩)) (hB : Blk w g t cs)
    (hu : P.underlying ty = some d) (hd : (match d with | .struct _ | .array _ _ => true | _ => false) = true) (hi : (P.info? ty).map (·.size) = some cs.size)
    (h : R (.returned (.agg cs)) w) : bodyPost P fn R .ret a w :=
  bodyPost_ret (results_cell_row hr _ _ g t cs (0, 0) d hp hB hu hd hi) hd0 h
end
end Go.Proofs.Ytkdkmnemmenikaa
