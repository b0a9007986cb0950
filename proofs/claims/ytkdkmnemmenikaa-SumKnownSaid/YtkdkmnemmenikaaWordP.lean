/- Eight bytes of a sum as a number: plainly. -/
import Derived.Test.YtkdkmnemmenikaaSm
import Derived.IntWalk
namespace Go.Proofs.Ytkdkmnemmenikaa
open Go.RowKit

/-- The number that the last t of the eight bytes from 8 i on make. -/
def wordF (l : List Nat) (i : Nat) : Nat → Nat
  | 0 => 0
  | t + 1 => wordF l i t * 256 + l.getD (8 * i + (7 - t)) 0
theorem wordF_lt (l : List Nat) (i : Nat) (hl : ∀ j, l.getD j 0 < 256) : ∀ t, wordF l i t < 256 ^ t
  | 0 => by simp [wordF]
  | t + 1 => by
    have h1 := wordF_lt l i hl t
    have h2 := hl (8 * i + (7 - t))
    rw [wordF, Nat.pow_succ]
    omega
def wordL (l : List Nat) (i : Int) : Nat := if 0 ≤ i ∧ i < 4 then wordF l i.toNat 8 else 0

theorem wrap64u (n : Int) (h0 : 0 ≤ n) (h1 : n < 2 ^ 64) : IntKind.u64.wrap n = n := by
  have : IntKind.u64.wrap n = n % 18446744073709551616 := by simp [IntKind.wrap, IntKind.bits, IntKind.signed]
  rw [this]; omega
theorem or_byte (n b : Nat) (hn : n < 72057594037927936) (hb : b < 256) : bits .or .u64 ((n : Int) * 256) (b : Int) = ((n * 256 + b : Nat) : Int) := by
  have h := bits_join .u64 64 (by decide) wrap64u 8 ((n : Int) * 256) (b : Int) (by omega) (by omega) (by omega) (by omega) (by omega) (by omega)
  rw [h]
  omega

end Go.Proofs.Ytkdkmnemmenikaa
