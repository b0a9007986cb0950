/- Words of thirty-two bits over naturals; SHA-256 as a plain function of lists of naturals. -/
import Derived.Test.YtkdkmnemmenikaaMem
import Derived.Laws.BitsAllLaws
namespace Go.Proofs.Ytkdkmnemmenikaa
open Go.RowKit

def x32 (a b : Nat) : Nat := (a ^^^ b) % 4294967296
def a32 (a b : Nat) : Nat := (a + b) % 4294967296
def n32 (a b : Nat) : Nat := (a &&& b) % 4294967296
def o32 (a b : Nat) : Nat := (a ||| b) % 4294967296
def c32 (a : Nat) : Nat := 4294967295 - a % 4294967296
def r32 (a n : Nat) : Nat := a / 2 ^ n
def l32 (a n : Nat) : Nat := a * 2 ^ n % 4294967296
def rot (a n : Nat) : Nat := o32 (l32 a (32 - n)) (r32 a n)

theorem ofInt32 (a : Nat) : (BitVec.ofInt 32 (a : Int)).toNat = a % 4294967296 := by
  rw [BitVec.ofInt_natCast, BitVec.toNat_ofNat]
theorem x32_eq (a b : Nat) : bits .xor .u32 (a : Int) (b : Int) = ((x32 a b : Nat) : Int) := by
  show IntKind.u32.wrap ((BitVec.ofInt 32 (a : Int) ^^^ BitVec.ofInt 32 (b : Int)).toNat : Int) = _
  rw [BitVec.toNat_xor, ofInt32, ofInt32, IntKind.wrap_u32']
  have h : a % 4294967296 ^^^ b % 4294967296 = (a ^^^ b) % 4294967296 := (Nat.xor_mod_two_pow (n := 32)).symm
  unfold x32
  rw [h]
  omega
theorem n32_eq (a b : Nat) : bits .and .u32 (a : Int) (b : Int) = ((n32 a b : Nat) : Int) := by
  show IntKind.u32.wrap ((BitVec.ofInt 32 (a : Int) &&& BitVec.ofInt 32 (b : Int)).toNat : Int) = _
  rw [BitVec.toNat_and, ofInt32, ofInt32, IntKind.wrap_u32']
  have h : a % 4294967296 &&& b % 4294967296 = (a &&& b) % 4294967296 := (Nat.and_mod_two_pow (n := 32)).symm
  unfold n32
  rw [h]
  omega
theorem o32_eq (a b : Nat) : bits .or .u32 (a : Int) (b : Int) = ((o32 a b : Nat) : Int) := by
  show IntKind.u32.wrap ((BitVec.ofInt 32 (a : Int) ||| BitVec.ofInt 32 (b : Int)).toNat : Int) = _
  rw [BitVec.toNat_or, ofInt32, ofInt32, IntKind.wrap_u32']
  have h : a % 4294967296 ||| b % 4294967296 = (a ||| b) % 4294967296 := (Nat.or_mod_two_pow (n := 32)).symm
  unfold o32
  rw [h]
  omega
theorem a32_eq (a b : Nat) : ((a : Int) + (b : Int)) % 4294967296 = ((a32 a b : Nat) : Int) := by
  unfold a32
  omega
theorem a32_eq' (a b : Nat) : IntKind.u32.wrap ((a : Int) + (b : Int)) = ((a32 a b : Nat) : Int) := by
  rw [IntKind.wrap_u32']
  exact a32_eq a b
theorem c32_eq (a : Nat) : bits .xor .u32 IntKind.u32.max (a : Int) = ((c32 a : Nat) : Int) := by
  show IntKind.u32.wrap ((BitVec.allOnes 32 ^^^ BitVec.ofInt 32 (a : Int)).toNat : Int) = _
  rw [BitVec.allOnes_xor, BitVec.toNat_not, ofInt32, IntKind.wrap_u32']
  unfold c32
  omega
theorem a32_e2 (x c k w u : Nat) : ((x : Int) + (c : Int) + (k : Int) + (w : Int) + (u : Int)) % 4294967296 = ((a32 (a32 (a32 (a32 x c) k) w) u : Nat) : Int) := by unfold a32; omega
theorem a32_e3 (d x c k w : Nat) : ((d : Int) + ((x : Int) + (c : Int) + (k : Int) + (w : Int))) % 4294967296 = ((a32 d (a32 (a32 (a32 x c) k) w) : Nat) : Int) := by unfold a32; omega
theorem r32_eq (n : Nat) (k : Int) (hk : ((2 ^ n : Nat) : Int) = k) (a : Nat) : (a : Int) / k = ((r32 a n : Nat) : Int) := by
  subst hk
  unfold r32
  rw [Int.natCast_ediv]
theorem l32_eq (n : Nat) (k : Int) (hk : ((2 ^ n : Nat) : Int) = k) (a : Nat) : (a : Int) * k % 4294967296 = ((l32 a n : Nat) : Int) := by
  subst hk
  unfold l32
  omega
theorem l32_eq' (n : Nat) (k : Int) (hk : ((2 ^ n : Nat) : Int) = k) (a : Nat) : IntKind.u32.wrap ((a : Int) * k) = ((l32 a n : Nat) : Int) := by
  rw [IntKind.wrap_u32']
  exact l32_eq n k hk a
theorem w32_byte {a : Nat} (h : a < 256) : IntKind.u32.wrap (a : Int) = (a : Int) := by rw [IntKind.wrap_u32']; omega
theorem add_pos (a : Addr) (n : Nat) (h : n ≠ 0) : a.add n = ⟨a.block, a.off + n, none⟩ := by unfold Addr.add; rw [if_neg h]
theorem o32_comm (a b : Nat) : o32 a b = o32 b a := by unfold o32; rw [Nat.or_comm]
theorem x32_lt (a b : Nat) : x32 a b < 4294967296 := Nat.mod_lt _ (by omega)
theorem a32_lt (a b : Nat) : a32 a b < 4294967296 := Nat.mod_lt _ (by omega)
theorem o32_lt (a b : Nat) : o32 a b < 4294967296 := Nat.mod_lt _ (by omega)

/-- Each round's own number. -/
def keysS : List Nat := [0x428a2f98, 0x71374491, 0xb5c0fbcf, 0xe9b5dba5, 0x3956c25b, 0x59f111f1, 0x923f82a4, 0xab1c5ed5, 0xd807aa98, 0x12835b01, 0x243185be, 0x550c7dc3, 0x72be5d74, 0x80deb1fe, 0x9bdc06a7, 0xc19bf174, 0xe49b69c1, 0xefbe4786, 0x0fc19dc6, 0x240ca1cc, 0x2de92c6f, 0x4a7484aa, 0x5cb0a9dc, 0x76f988da, 0x983e5152, 0xa831c66d, 0xb00327c8, 0xbf597fc7, 0xc6e00bf3, 0xd5a79147, 0x06ca6351, 0x14292967, 0x27b70a85, 0x2e1b2138, 0x4d2c6dfc, 0x53380d13, 0x650a7354, 0x766a0abb, 0x81c2c92e, 0x92722c85, 0xa2bfe8a1, 0xa81a664b, 0xc24b8b70, 0xc76c51a3, 0xd192e819, 0xd6990624, 0xf40e3585, 0x106aa070, 0x19a4c116, 0x1e376c08, 0x2748774c, 0x34b0bcb5, 0x391c0cb3, 0x4ed8aa4a, 0x5b9cca4f, 0x682e6ff3, 0x748f82ee, 0x78a5636f, 0x84c87814, 0x8cc70208, 0x90befffa, 0xa4506ceb, 0xbef9a3f7, 0xc67178f2]
def beginS : List Nat := [0x6a09e667, 0xbb67ae85, 0x3c6ef372, 0xa54ff53a, 0x510e527f, 0x9b05688c, 0x1f83d9ab, 0x5be0cd19]

/-- Four bytes as a word. -/
def word4 (a b c d : Nat) : Nat := o32 (o32 (o32 (l32 a 24) (l32 b 16)) (l32 c 8)) d
/-- A word of those before it. -/
def wordN (p a q c : Nat) : Nat := a32 (a32 (a32 p (x32 (x32 (rot a 7) (rot a 18)) (r32 a 3))) q) (x32 (x32 (rot c 17) (rot c 19)) (r32 c 10))
/-- The words of the first n rounds. -/
def wordsS (b : List Nat) : Nat → List Nat
  | 0 => []
  | n + 1 =>
    let w := wordsS b n
    w ++ [if n < 16 then word4 (b.getD (4 * n) 0) (b.getD (4 * n + 1) 0) (b.getD (4 * n + 2) 0) (b.getD (4 * n + 3) 0)
      else wordN (w.getD (n - 16) 0) (w.getD (n - 15) 0) (w.getD (n - 7) 0) (w.getD (n - 2) 0)]
theorem wordsS_len (b : List Nat) : ∀ n, (wordsS b n).length = n
  | 0 => rfl
  | n + 1 => by simp [wordsS, wordsS_len b n]

/-- The two sums of a round. -/
def sumE (e f g h k w : Nat) : Nat := a32 (a32 (a32 (a32 h (x32 (x32 (rot e 6) (rot e 11)) (rot e 25))) (x32 (n32 e f) (n32 (c32 e) g))) k) w
def sumA (a b c : Nat) : Nat := a32 (x32 (x32 (rot a 2) (rot a 13)) (rot a 22)) (x32 (x32 (n32 a b) (n32 a c)) (n32 b c))
def roundS (k w : Nat) : List Nat → List Nat
  | [a, b, c, d, e, f, g, h] => [a32 (sumE e f g h k w) (sumA a b c), a, b, c, a32 d (sumE e f g h k w), e, f, g]
  | v => v
/-- The state behind n rounds. -/
def roundsS (ws v : List Nat) : Nat → List Nat
  | 0 => v
  | n + 1 => roundS (keysS.getD n 0) (ws.getD n 0) (roundsS ws v n)
theorem roundS_len (k w : Nat) (v : List Nat) (h : v.length = 8) : (roundS k w v).length = 8 := by
  unfold roundS
  split
  · rfl
  · exact h
theorem roundsS_len (ws v : List Nat) (h : v.length = 8) : ∀ n, (roundsS ws v n).length = 8
  | 0 => h
  | n + 1 => roundS_len _ _ _ (roundsS_len ws v h n)
def blockS (h b : List Nat) : List Nat := List.zipWith a32 h (roundsS (wordsS b 64) h 64)
theorem blockS_len (h b : List Nat) (hl : h.length = 8) : (blockS h b).length = 8 := by
  unfold blockS
  rw [List.length_zipWith, roundsS_len _ _ hl, hl]
  rfl
def blocksS (h : List Nat) : Nat → List Nat → List Nat
  | 0, _ => h
  | n + 1, p => blocksS (blockS h (p.take 64)) n (p.drop 64)
theorem blocksS_len : ∀ (n : Nat) (h p : List Nat), h.length = 8 → (blocksS h n p).length = 8
  | 0, _, _, hl => hl
  | n + 1, h, _, hl => blocksS_len n _ _ (blockS_len h _ hl)
/-- How many noughts are laid behind. -/
def fillS (n : Nat) : Nat := (119 - n % 64) % 64
def lenS (n : Nat) : List Nat := [n / 72057594037927936 % 256, n / 281474976710656 % 256, n / 1099511627776 % 256, n / 4294967296 % 256, n / 16777216 % 256, n / 65536 % 256, n / 256 % 256, n % 256]
def padS (l : List Nat) : List Nat := l ++ [128] ++ List.replicate (fillS l.length) 0 ++ lenS (l.length * 8)
theorem padS_len (l : List Nat) : ∃ n, (padS l).length = 64 * n := by
  refine ⟨(padS l).length / 64, ?_⟩
  simp only [padS, fillS, lenS, List.length_append, List.length_replicate, List.length_cons, List.length_nil]
  omega
def bytes4 (x : Nat) : List Nat := [x / 16777216 % 256, x / 65536 % 256, x / 256 % 256, x % 256]
def shaL (l : List Nat) : List Nat := (blocksS beginS ((padS l).length / 64) (padS l)).flatMap bytes4
theorem flat4_len (l : List Nat) : (l.flatMap bytes4).length = 4 * l.length := by
  induction l with
  | nil => rfl
  | cons x l ih => rw [List.flatMap_cons, List.length_append, ih, List.length_cons]; simp only [bytes4, List.length_cons, List.length_nil]; omega
theorem shaL_len (l : List Nat) : (shaL l).length = 32 := by
  unfold shaL
  rw [flat4_len, blocksS_len _ _ _ (by rfl)]
theorem shaL_lt (l : List Nat) : ∀ x ∈ shaL l, x < 256 := by
  intro x hx
  obtain ⟨y, _, hy⟩ := List.mem_flatMap.1 hx
  simp only [bytes4, List.mem_cons, List.not_mem_nil, or_false] at hy
  omega
end Go.Proofs.Ytkdkmnemmenikaa
