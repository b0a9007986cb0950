/- Words: slices of slices of bytes. -/
import Derived.Test.YtmlbkcpmgcjblaaShaD
namespace Go.Proofs.Ytmlbkcpmgcjblaa
open Go.RowKit

theorem later {w w' : World} {p : Addr} {v : Value} (hb : Below w.heap.size w w') (h : w.cell? p = some v) : w'.cell? p = some v :=
  (hb.cell (World.block_lt_of_cell? w _ h)).trans h

theorem Own.place {w : World} {sz n cap : Nat} {A : Option Addr} {xs : List Value} {S : List Nat} (h : Own w sz (.slice A n cap) n xs S) (h0 : 0 < n) : ∃ g off, A = some ⟨g, off, none⟩ ∧ w.rangeAt g off xs := by
  rcases h.2 with ⟨_, _, hn, _⟩ | ⟨g, off, c, e, _, _, _, _, _, hr⟩
  · omega
  · injection e with e
    exact ⟨g, off, e, hr⟩
theorem parts_one {w : World} {g : Nat} {A : Option Addr} {cap : Nat} {l : List Nat} (hc : w.cell? ⟨g, 0, none⟩ = some (.slice A l.length cap)) (hr : Rd w A (l.map bv)) (hA : A = none → l = []) (hx : ∀ x ∈ l, x < 256) : Parts w g 0 [l] := by
  intro i k hi
  match i, hi with
  | 0, hi =>
    simp only [List.getElem?_cons_zero, Option.some.injEq] at hi
    subst hi
    exact ⟨A, cap, hc, hr, hA, hx⟩

/-- Where what stands from f on lies. -/
def subA (A : Option Addr) (cap f : Nat) : Option Addr := if cap = f then A else A.map (·.add f)
theorem slice_mid (A : Option Addr) (n cap f t : Nat) (h1 : f ≤ t) (h2 : t ≤ cap) (W : World) :
    (Instr.slice 70 (.slice A n cap) (some (.int .i64 (f : Int))) (some (.int .i64 (t : Int))) none).run Try.prog W = .ok (.slice (subA A cap f) (t - f) (cap - f)) W := by
  have h4 : (t : Int) ≤ (cap : Int) := by omega
  have h6 : ¬ t < f := by omega
  simp [Instr.slice, run_underlying Try.underlying70, go_sem, h4, h6, Try.sizeOf5, subA]
theorem slice_from (A : Option Addr) (n cap f : Nat) (h1 : f ≤ n) (W : World) :
    (Instr.slice 70 (.slice A n cap) (some (.int .i64 (f : Int))) none none).run Try.prog W = .ok (.slice (subA A cap f) (n - f) (cap - f)) W := by
  have h3 : (f : Int) ≤ (n : Int) := by omega
  simp [Instr.slice, run_underlying Try.underlying70, go_sem, h3, Try.sizeOf5, subA]
theorem subA_rd {w : World} {A : Option Addr} {cap f t : Nat} {b : List Nat} (hr : Rd w A (b.map bv)) (hc : b.length ≤ cap) (_ht : t ≤ b.length) : Rd w (subA A cap f) (((b.take t).drop f).map bv) := by
  have h := (hr.take t).drop f (c := cap) (fun hne e => hne (List.drop_of_length_le (by rw [List.length_take, List.length_map]; omega)))
  rw [List.map_drop, List.map_take]
  exact h
end Go.Proofs.Ytmlbkcpmgcjblaa
