/- Digits of base sixteen, plainly. -/
import Derived.Test.YtkdkmnemmenikaaStr
import Derived.Test.YtkdkmnemmenikaaSm
namespace Go.Proofs.Ytkdkmnemmenikaa
open Go.RowKit

def hexd (n : Nat) : Nat := if n < 10 then 48 + n else 87 + n
def hexS : List Nat → List Nat
  | [] => []
  | c :: l => hexd (c / 16) :: hexd (c % 16) :: hexS l
theorem hexS_len : ∀ l : List Nat, (hexS l).length = 2 * l.length
  | [] => rfl
  | c :: l => by simp [hexS, hexS_len l]; omega
theorem hexS_append : ∀ a b : List Nat, hexS (a ++ b) = hexS a ++ hexS b
  | [], b => rfl
  | c :: a, b => by simp [hexS, hexS_append a b]
theorem hexd_lt {n : Nat} (h : n < 16) : hexd n < 256 := by unfold hexd; split <;> omega
theorem hexS_lt : ∀ l : List Nat, (∀ x ∈ l, x < 256) → ∀ y ∈ hexS l, y < 256
  | [], _ => by simp [hexS]
  | c :: l, h => by
    intro y hy
    have hc := h c (by simp)
    simp only [hexS, List.mem_cons] at hy
    rcases hy with rfl | rfl | hy
    · exact hexd_lt (by omega)
    · exact hexd_lt (by omega)
    · exact hexS_lt l (fun x hx => h x (by simp [hx])) y hy
end Go.Proofs.Ytkdkmnemmenikaa
