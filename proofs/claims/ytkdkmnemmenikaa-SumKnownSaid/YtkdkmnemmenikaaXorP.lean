/- Sums laid on each other, plainly. -/
import Derived.Test.YtkdkmnemmenikaaSm
namespace Go.Proofs.Ytkdkmnemmenikaa
open Go.RowKit

def x8 (a b : Nat) : Nat := (a ^^^ b) % 256
theorem x8_eq (a b : Nat) : bits .xor .u8 (a : Int) (b : Int) = ((x8 a b : Nat) : Int) := by
  show IntKind.u8.wrap ((BitVec.ofInt 8 (a : Int) ^^^ BitVec.ofInt 8 (b : Int)).toNat : Int) = _
  rw [BitVec.toNat_xor, BitVec.ofInt_natCast, BitVec.ofInt_natCast, BitVec.toNat_ofNat, BitVec.toNat_ofNat, IntKind.wrap_u8']
  have h : a % 2 ^ 8 ^^^ b % 2 ^ 8 = (a ^^^ b) % 2 ^ 8 := (Nat.xor_mod_two_pow (n := 8)).symm
  unfold x8
  rw [h]
  omega
theorem x8_lt (a b : Nat) : x8 a b < 256 := Nat.mod_lt _ (by omega)
theorem x8_comm (a b : Nat) : x8 a b = x8 b a := by unfold x8; rw [Nat.xor_comm]
theorem x8_assoc (a b c : Nat) : x8 (x8 a b) c = x8 a (x8 b c) := by
  unfold x8
  have e1 : ((a ^^^ b) % 256 ^^^ c) % 256 = (a ^^^ b ^^^ c) % 256 := by
    have h1 : ((a ^^^ b) % 2 ^ 8 ^^^ c) % 2 ^ 8 = ((a ^^^ b) % 2 ^ 8 % 2 ^ 8) ^^^ (c % 2 ^ 8) := Nat.xor_mod_two_pow
    have h2 : (a ^^^ b ^^^ c) % 2 ^ 8 = (a ^^^ b) % 2 ^ 8 ^^^ c % 2 ^ 8 := Nat.xor_mod_two_pow
    rw [Nat.mod_mod] at h1
    exact h1.trans h2.symm
  have e2 : (a ^^^ (b ^^^ c) % 256) % 256 = (a ^^^ (b ^^^ c)) % 256 := by
    have h1 : (a ^^^ (b ^^^ c) % 2 ^ 8) % 2 ^ 8 = a % 2 ^ 8 ^^^ ((b ^^^ c) % 2 ^ 8 % 2 ^ 8) := Nat.xor_mod_two_pow
    have h2 : (a ^^^ (b ^^^ c)) % 2 ^ 8 = a % 2 ^ 8 ^^^ (b ^^^ c) % 2 ^ 8 := Nat.xor_mod_two_pow
    rw [Nat.mod_mod] at h1
    exact h1.trans h2.symm
  rw [e1, e2, Nat.xor_assoc]
theorem x8_self (a : Nat) : x8 a a = 0 := by unfold x8; rw [Nat.xor_self]
theorem x8_zero (a : Nat) (h : a < 256) : x8 a 0 = a := by unfold x8; rw [Nat.xor_zero]; omega

def xorL (x y : List Nat) : List Nat := List.zipWith x8 x y
theorem xorL_len {x y : List Nat} (h : x.length = y.length) : (xorL x y).length = x.length := by simp [xorL, h]
theorem xorL_lt (x y : List Nat) : ∀ z ∈ xorL x y, z < 256 := by
  intro z hz
  obtain ⟨i, hi, rfl⟩ := List.getElem_of_mem hz
  simp only [xorL, List.getElem_zipWith]
  exact x8_lt _ _
def Sm.xor (x y : Sm) : Sm := ⟨xorL x.l y.l, by rw [xorL_len (by rw [x.len, y.len]), x.len], xorL_lt _ _⟩
theorem Sm.ext_get {x y : Sm} (h : ∀ i (h1 : i < x.l.length) (h2 : i < y.l.length), x.l[i] = y.l[i]) : x = y :=
  Sm.ext_l (List.ext_getElem (by rw [x.len, y.len]) h)
theorem Sm.xor_comm (x y : Sm) : x.xor y = y.xor x := by
  apply Sm.ext_get; intro i h1 h2
  simp only [Sm.xor, xorL, List.getElem_zipWith]; exact x8_comm _ _
theorem Sm.xor_assoc (x y z : Sm) : (x.xor y).xor z = x.xor (y.xor z) := by
  apply Sm.ext_get; intro i h1 h2
  simp only [Sm.xor, xorL, List.getElem_zipWith]; exact x8_assoc _ _ _
theorem Sm.xor_self (x : Sm) : x.xor x = Sm.zero := by
  apply Sm.ext_get; intro i h1 h2
  simp only [Sm.xor, xorL, List.getElem_zipWith, Sm.zero, List.getElem_replicate]; exact x8_self _
theorem Sm.xor_zero (x : Sm) : x.xor Sm.zero = x := by
  apply Sm.ext_get; intro i h1 h2
  simp only [Sm.xor, xorL, List.getElem_zipWith, Sm.zero, List.getElem_replicate]; exact x8_zero _ (x.lt _ (List.getElem_mem _))
theorem Sm.zero_xor (x : Sm) : Sm.zero.xor x = x := by rw [Sm.xor_comm, Sm.xor_zero]
theorem Sm.xor_eq_zero {x y : Sm} (h : x.xor y = Sm.zero) : x = y := by
  have h1 : (x.xor y).xor y = y := by rw [h, Sm.zero_xor]
  rw [Sm.xor_assoc, Sm.xor_self, Sm.xor_zero] at h1
  exact h1

/-- x with y laid on its first k bytes. -/
def mix8 (x y : List Nat) (k : Nat) : List Nat := (xorL x y).take k ++ x.drop k
theorem mix8_len {x y : List Nat} {k : Nat} (hx : x.length = 32) (hy : y.length = 32) (hk : k ≤ 32) : (mix8 x y k).length = 32 := by
  unfold mix8; simp [xorL, hx, hy]; omega
theorem mix8_get {x y : List Nat} {k : Nat} (hx : x.length = 32) (hy : y.length = 32) (hk : k < 32) : (mix8 x y k).getD k 0 = x.getD k 0 := by
  have hl : ((xorL x y).take k).length = k := by simp [xorL, hx, hy]; omega
  unfold mix8
  rw [List.getD, List.getElem?_append_right (by omega), List.getElem?_drop, hl]
  simp [List.getD]
theorem mix8_set {x y : List Nat} {k : Nat} (hx : x.length = 32) (hy : y.length = 32) (hk : k < 32) : (u8s (mix8 x y k)).setIfInBounds k (.int .u8 ((x8 (x.getD k 0) (y.getD k 0) : Nat) : Int)) = u8s (mix8 x y (k + 1)) := by
  have hzl : (xorL x y).length = 32 := by simp [xorL, hx, hy]
  have hz : (xorL x y)[k]'(by omega) = x8 (x.getD k 0) (y.getD k 0) := by
    simp only [xorL, List.getElem_zipWith]
    simp [List.getD, List.getElem?_eq_getElem (show k < x.length by omega), List.getElem?_eq_getElem (show k < y.length by omega)]
  rw [u8s_set]
  unfold mix8
  have hl : ((xorL x y).take k).length = k := by rw [List.length_take]; omega
  rw [List.take_succ_eq_append_getElem (by omega), hz, List.set_append_right _ _ (by omega), hl, Nat.sub_self, List.drop_eq_getElem_cons (show k < x.length by omega), List.set_cons_zero, List.append_assoc]
  rfl
theorem mix8_all {x y : List Nat} (hx : x.length = 32) (hy : y.length = 32) : mix8 x y 32 = xorL x y := by
  unfold mix8; rw [List.take_of_length_le (by simp [xorL, hx, hy]), List.drop_of_length_le (by omega), List.append_nil]
end Go.Proofs.Ytkdkmnemmenikaa
