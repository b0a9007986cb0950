/- Arrays of bytes as values: an element, ==; a sum as a list of thirty-two bytes. -/
import Derived.Test.YtkdkmnemmenikaaProg
import Derived.Test.YtkdkmnemmenikaaMemO
import Derived.ChangeKeysEq
import Derived.Laws.StructEq
import Derived.Laws.BitsAllLaws
namespace Go.Proofs.Ytkdkmnemmenikaa
open Go.RowKit

def u8s (l : List Nat) : Array Value := (l.map bv).toArray
theorem u8s_size (l : List Nat) : (u8s l).size = l.length := by simp [u8s]
theorem u8s_one (l : List Nat) : (u8s l).all (·.oneCell') = true := by
  unfold u8s; rw [Array.all_eq_true_iff_forall_mem]; intro v hv; simp at hv; obtain ⟨x, _, rfl⟩ := hv; rfl
theorem u8s_get {l : List Nat} {j : Nat} (h : j < l.length) : (u8s l)[j]? = some (.int .u8 ((l.getD j 0 : Nat) : Int)) := by
  simp [u8s, bv, List.getElem?_map, List.getElem?_eq_getElem h, List.getD]
theorem u8s_set {l : List Nat} {j x : Nat} : (u8s l).setIfInBounds j (.int .u8 (x : Int)) = u8s (l.set j x) := by
  unfold u8s
  rw [List.setIfInBounds_toArray, List.map_set]
  rfl
theorem u8s_inj {x y : List Nat} (h : u8s x = u8s y) : x = y := by
  have h1 : x.map bv = y.map bv := by simpa [u8s] using h
  exact (List.map_inj_right (f := bv) (fun a b e => by simp only [bv] at e; injection e with _ e; omega)).1 h1

section
variable {P : Program}
/-- An element of an array by value. -/
theorem run_index_arr (w : World) (t e : TypeId) (n : Nat) (cs : Array Value) (k : IntKind) (i : Nat) (v : Value) (h : P.underlying t = some (.array n e)) (ha : ∀ w, (isAgg e).run P w = .ok false w)
    (hz : ∀ w, (Go.sizeOf e).run P w = .ok 1 w) (hi : i < n) (hv : cs[i]? = some v) : (Instr.index t (.agg cs) (.int k (i : Int))).run P w = .ok v w := by
  simp [Instr.index, run_underlying h, asIntOf, part, ha, hz, hi, hv]

theorem run_eqItems_bytes (d : Nat) (e : TypeId) (he : P.underlying e = some (.int .u8)) (ha : ∀ w, (isAgg e).run P w = .ok false w) (x y : List Nat) (w : World) : ∀ is : List Nat, (∀ i ∈ is, i < x.length ∧ i < y.length) →
    (Op.eqItems (d + 1) e 1 (u8s x) (u8s y) is).run P w = .ok (is.all fun i => x.getD i 0 == y.getD i 0) w
  | [], _ => by simp [Op.eqItems]
  | i :: is, h => by
    obtain ⟨h1, h2⟩ := h i (by simp)
    have ih := run_eqItems_bytes d e he ha x y w is (fun j hj => h j (by simp [hj]))
    have p1 : (part e (u8s x) (i * 1)).run P w = .ok (.int .u8 ((x.getD i 0 : Nat) : Int)) w := by simp [part, ha, u8s_get h1]
    have p2 : (part e (u8s y) (i * 1)).run P w = .ok (.int .u8 ((y.getD i 0 : Nat) : Int)) w := by simp [part, ha, u8s_get h2]
    have hb : (((x.getD i 0 : Nat) : Int) == ((y.getD i 0 : Nat) : Int)) = (x.getD i 0 == y.getD i 0) := by
      rw [Bool.eq_iff_iff]; simp only [beq_iff_eq]; omega
    simp only [Op.eqItems, Sem.run_bind, p1, p2, Result.andThen_ok, run_equalIn_int w d e .u8 .u8 _ _ he, hb, List.all_cons]
    cases x.getD i 0 == y.getD i 0
    · simp
    · simpa using ih

theorem all_range (x y : List Nat) (n : Nat) (hx : x.length = n) (hy : y.length = n) : ((List.range n).all fun i => x.getD i 0 == y.getD i 0) = decide (x = y) := by
  rw [Bool.eq_iff_iff, List.all_eq_true, decide_eq_true_eq]
  constructor
  · intro h
    apply List.ext_getElem (by omega)
    intro i h1 h2
    have := h i (by simp; omega)
    simpa [List.getD, List.getElem?_eq_getElem h1, List.getElem?_eq_getElem h2] using this
  · rintro rfl i _
    simp

theorem run_equalIn_bytes (d : Nat) (t e : TypeId) (n : Nat) (i : TypeInfo) (ht : P.underlying t = some (.array n e)) (hi : P.info? e = some i) (hc : P.cellsOf e = 1) (he : P.underlying e = some (.int .u8)) (ha : ∀ w, (isAgg e).run P w = .ok false w)
    (x y : List Nat) (hx : x.length = n) (hy : y.length = n) (w : World) : (Op.equalIn (d + 2) t (.agg (u8s x)) (.agg (u8s y))).run P w = .ok (decide (x = y)) w := by
  rw [run_equalIn_array w (d + 1) _ _ ht hi, hc, run_eqItems_bytes d e he ha x y w _ (fun i hi => by simp at hi; omega), all_range x y n hx hy]
theorem run_eql_bytes (t e : TypeId) (n : Nat) (i : TypeInfo) (ht : P.underlying t = some (.array n e)) (hi : P.info? e = some i) (hc : P.cellsOf e = 1) (he : P.underlying e = some (.int .u8)) (ha : ∀ w, (isAgg e).run P w = .ok false w)
    (x y : List Nat) (hx : x.length = n) (hy : y.length = n) (w : World) : (binOp .eql t (.agg (u8s x)) (.agg (u8s y))).run P w = .ok (.bool (decide (x = y))) w := by
  rw [run_eql_struct, run_equalIn_bytes 9998 t e n i ht hi hc he ha x y hx hy w]
  rfl
theorem run_neq_bytes (t e : TypeId) (n : Nat) (i : TypeInfo) (ht : P.underlying t = some (.array n e)) (hi : P.info? e = some i) (hc : P.cellsOf e = 1) (he : P.underlying e = some (.int .u8)) (ha : ∀ w, (isAgg e).run P w = .ok false w)
    (x y : List Nat) (hx : x.length = n) (hy : y.length = n) (w : World) : (binOp .neq t (.agg (u8s x)) (.agg (u8s y))).run P w = .ok (.bool (!decide (x = y))) w := by
  rw [run_neq_struct, run_equalIn_bytes 9998 t e n i ht hi hc he ha x y hx hy w]
  rfl
end

/-- A sum. -/
structure Sm where
  l : List Nat
  len : l.length = 32
  lt : ∀ b ∈ l, b < 256
  deriving DecidableEq
theorem Sm.ext_l {a b : Sm} (h : a.l = b.l) : a = b := by cases a; cases b; cases h; rfl
def Sm.zero : Sm := ⟨List.replicate 32 0, by decide, by decide⟩
instance : Inhabited Sm := ⟨Sm.zero⟩
def Sm.enc (s : Sm) : List Value := s.l.map bv
abbrev Sm.v (s : Sm) : Value := .agg (u8s s.l)
theorem Sm.get_lt (s : Sm) (j : Nat) : s.l.getD j 0 < 256 := by
  by_cases h : j < s.l.length
  · simp only [List.getD, List.getElem?_eq_getElem h, Option.getD_some]; exact s.lt _ (List.getElem_mem _)
  · simp [List.getD, List.getElem?_eq_none (by omega : s.l.length ≤ j)]
end Go.Proofs.Ytkdkmnemmenikaa
