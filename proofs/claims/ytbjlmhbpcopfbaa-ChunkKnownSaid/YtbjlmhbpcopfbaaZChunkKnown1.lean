/- Joined: RollA, Mem, RollB, RollC, RollP, RollD, RollE, RollF, RollG, CutP, CutA, CutB, CutC, CutD, MemA, MemO, Ty, TyC, Sm, TyS, TyB, TyD, TyM, TyF, TyG, TyQ, ShaP, ShaA, ShaB. -/
import Derived.Test.YtbjlmhbpcopfbaaProg
import Derived.Shelf.Bits.Mul64
import Derived.WalkKit
import Derived.Deep.RegionHeld3
import Derived.Deep.QuietTactic
import Derived.BigQuiet
import Derived.KernelRfl
import Derived.Deep.Draws
import Derived.Deep.AppendLies
import Derived.Maps.AppendAt
import Derived.StillTailTactics
import Derived.BigRegion
import Derived.Lib.SlBytesConst
import Derived.WalkSpells
import Derived.Lib.Hide
import Derived.Deep.LoopGhost
import Derived.Deep.DeepCutAuto
import Derived.Lib.BufferMore
import Derived.Handy
import Derived.Deep.MidRow
import Derived.Laws.Rows
import Derived.Tactics
import Derived.Laws.IdiomCopy
import Derived.Orders
import Derived.StillTail
import Derived.ChangeKeysEq
import Derived.Laws.StructEq
import Derived.Laws.BitsAllLaws
import Derived.Lib.SliceRun
import Derived.WalkLawsBesides
import Derived.Outline
import Derived.IntWalk
/- Walks of package roll's functions over plain numbers: what each returns, as a plain function of naturals. -/
namespace Go.Proofs.Ytbjlmhbpcopfbaa
open Go.RowKit Go.Shelf

def mulRen : Ren := ⟨fun | 264 => 87 | n => n, fun | 53 => 63 | 46 => 88 | n => n, fun | n => n⟩
theorem mulLays : Go.Proofs.Lays.n264 Try.prog mulRen := {
  mixed := by kernel_rfl
  f264 := Try.func87.trans (congrArg some (by kernel_rfl))
  t46 := Try.underlying88
  a46 := Try.isAgg88
  z46 := Try.sizeOf88
  v46 := Try.zeroValue88
  t53 := Try.underlying63
  a53 := Try.isAgg63
  z53 := Try.sizeOf63
  v53 := Try.zeroValue63 }
theorem mul64_any (x y : Nat) (hx : x < 18446744073709551616) (hy : y < 18446744073709551616) (w : World) :
    Calls Try.prog 87 #[.int .u64 x, .int .u64 y] w fun e w' => e = .returned (.tuple #[.int .u64 ((x * y / 18446744073709551616 : Nat) : Int), .int .u64 ((x * y % 18446744073709551616 : Nat) : Int)]) ∧ w' = w :=
  Any.bits_Mul64 mulLays x y hx hy w

theorem ret_int {k : IntKind} {a b : Int} (h : a = b) : Ending.returned (.int k a) = .returned (.int k b) := by rw [h]

theorem rest_any (n : Int) (h0 : 0 ≤ n) (w : World) :
    Calls Try.prog 84 #[.int .u64 n] w fun e w' => e = .returned (.int .u64 (n % 2305843009213693951)) ∧ w = w' := by
  go_enter Try.func84, Try.ntmps84
  go_wp2
  go_ret
  exact ⟨rfl, rfl⟩

theorem wrap_u64 (n : Int) : IntKind.u64.wrap n = n % 18446744073709551616 := by simp [IntKind.wrap, IntKind.bits, IntKind.signed]
theorem wraps_u64 (n : Int) (h₀ : 0 ≤ n) (h₁ : n < 2 ^ 64) : IntKind.u64.wrap n = n := by rw [wrap_u64]; omega
theorem mask61 (x : Int) (h0 : 0 ≤ x) (h1 : x < 18446744073709551616) : bits .and .u64 x 2305843009213693951 = x % 2305843009213693952 :=
  bits_mask .u64 64 (by decide) wraps_u64 61 (by decide) x h0 h1
theorem join3 (h l : Int) (h0 : 0 ≤ h) (h1 : h * 8 < 18446744073709551616) (l0 : 0 ≤ l) (l1 : l < 8) : bits .or .u64 (h * 8) l = h * 8 + l :=
  bits_join .u64 64 (by decide) wraps_u64 3 _ _ (by omega) (by omega) h1 l0 l1 (by omega)

theorem mul_fold (a b : Nat) (ha : a < 2305843009213693951) (hb : b < 2305843009213693951) :
    a * b / 18446744073709551616 * 8 < 18446744073709551616 ∧
    (a * b / 18446744073709551616 * 8 + a * b % 18446744073709551616 / 2305843009213693952 + a * b % 18446744073709551616 % 2305843009213693952 % 2305843009213693951) % 2305843009213693951 = a * b % 2305843009213693951 ∧
    a * b / 18446744073709551616 * 8 + a * b % 18446744073709551616 / 2305843009213693952 + a * b % 18446744073709551616 % 2305843009213693952 % 2305843009213693951 < 18446744073709551616 := by
  have h : a * b ≤ 2305843009213693950 * 2305843009213693950 := Nat.mul_le_mul (by omega) (by omega)
  generalize a * b = x at *
  omega

theorem mul_any (a b : Nat) (ha : a < 2305843009213693951) (hb : b < 2305843009213693951) (w : World) :
    Calls Try.prog 85 #[.int .u64 a, .int .u64 b] w fun e w' => e = .returned (.int .u64 ((a * b % 2305843009213693951 : Nat) : Int)) ∧ w = w' := by
  obtain ⟨h1, h2, h3⟩ := mul_fold a b ha hb
  generalize hx : a * b = x at *
  go_enter Try.func85, Try.ntmps85
  go_wp2_with fail
  refine (mul64_any a b (by omega) (by omega) _).mono ?_
  rintro e w' ⟨rfl, rfl⟩
  rw [hx]
  go_wp2_with fail
  rw [mask61 _ (by omega) (by omega), join3 _ _ (by omega) (by omega) (by omega) (by omega)]
  refine (rest_any _ (by omega) _).mono ?_
  rintro e w' ⟨rfl, rfl⟩
  go_wp2_with fail
  refine (rest_any _ (by omega) _).mono ?_
  rintro e w' ⟨rfl, rfl⟩
  go_wp2_with fail
  go_ret
  exact ⟨ret_int (by omega), rfl⟩

def onS (s c : Nat) : Nat := (s * 257 % 2305843009213693951 + c + 1) % 2305843009213693951
theorem onS_lt (s c : Nat) : onS s c < 2305843009213693951 := Nat.mod_lt _ (by omega)

theorem on_any (s c : Nat) (hs : s < 2305843009213693951) (hc : c < 256) (w : World) :
    Calls Try.prog 82 #[.int .u64 s, .int .u8 c] w fun e w' => e = .returned (.int .u64 (onS s c)) ∧ w = w' := by
  have hm : s * 257 % 2305843009213693951 < 2305843009213693951 := Nat.mod_lt _ (by omega)
  go_enter Try.func82, Try.ntmps82
  go_wp2_with fail
  refine (mul_any s 257 hs (by omega) _).mono ?_
  rintro e w' ⟨rfl, rfl⟩
  have HO : Hid (onS s c = (s * 257 % 2305843009213693951 + c + 1) % 2305843009213693951) := rfl
  generalize s * 257 % 2305843009213693951 = x at *
  go_wp2_with fail
  refine (rest_any _ (by omega) _).mono ?_
  rintro e w' ⟨rfl, rfl⟩
  go_wp2_with fail
  go_ret
  exact ⟨ret_int (by rw [HO.out]; omega), rfl⟩

def powS : Nat → Nat
  | 0 => 1
  | n + 1 => powS n * 257 % 2305843009213693951
theorem powS_lt : ∀ n, powS n < 2305843009213693951
  | 0 => by simp [powS]
  | n + 1 => Nat.mod_lt _ (by omega)

theorem power_any (n : Nat) (hn : n < 1000) (w : World) :
    Calls Try.prog 86 #[.int .i64 n] w fun e w' => e = .returned (.int .u64 (powS n)) ∧ w = w' := by
  go_enter Try.func86, Try.ntmps86
  go_wp2_with fail
  go_loop [3, 5] (fun p i => ∃ k : Nat, k ≤ n ∧ i = .int .i64 k ∧ p = .int .u64 (powS k)) (fun _ i => n - (intOf i).toNat)
  case atStart => exact ⟨0, Nat.zero_le _, rfl, rfl⟩
  case round =>
    obtain ⟨k, hk, rfl, rfl⟩ := hrel
    have hp := powS_lt k
    by_cases hlt : k < n
    · go_wp2_with (first | (go_at_call 85; refine (mul_any (powS k) 257 hp (by omega) _).mono ?_; rintro e w' ⟨rfl, rfl⟩))
      go_round
      case rel => exact ⟨k + 1, by omega, by go_num, rfl⟩
      case measure => simp [intOf]; omega
    · obtain rfl : k = n := by omega
      go_wp2
      go_ret
      exact ⟨rfl, rfl⟩

def holdS (w : Int) : Nat := if w < 1 then 1 else if 64 < w then 64 else w.toNat
theorem hold_any (a : Int) (w : World) :
    Calls Try.prog 80 #[.int .i64 a] w fun e w' => e = .returned (.int .i64 (holdS a)) ∧ w = w' := by
  by_cases h1 : a < 1
  · have e : holdS a = 1 := by unfold holdS; rw [if_pos h1]
    rw [e]
    go_enter Try.func80, Try.ntmps80
    go_wp2
    go_ret
    exact ⟨rfl, rfl⟩
  · by_cases h2 : 64 < a
    · have e : holdS a = 64 := by unfold holdS; rw [if_neg h1, if_pos h2]
      rw [e]
      go_enter Try.func80, Try.ntmps80
      go_wp2
      go_ret
      exact ⟨rfl, rfl⟩
    · have e : (holdS a : Int) = a := by unfold holdS; rw [if_neg h1, if_neg h2]; omega
      rw [e]
      go_enter Try.func80, Try.ntmps80
      go_wp2
      go_ret
      exact ⟨rfl, rfl⟩

def withoutS (s out w : Nat) : Nat := (s + 2305843009213693951 - (out + 1) * powS (w - 1) % 2305843009213693951) % 2305843009213693951
theorem withoutS_lt (s o w : Nat) : withoutS s o w < 2305843009213693951 := Nat.mod_lt _ (by omega)

theorem without_any (s o wd : Nat) (hs : s < 2305843009213693951) (ho : o < 256) (h1 : 1 ≤ wd) (h2 : wd ≤ 64) (w : World) :
    Calls Try.prog 81 #[.int .u64 s, .int .u8 o, .int .i64 wd] w fun e w' => e = .returned (.int .u64 (withoutS s o wd)) ∧ w = w' := by
  obtain ⟨n, rfl⟩ : ∃ n, wd = n + 1 := ⟨wd - 1, by omega⟩
  have HW : Hid (withoutS s o (n + 1) = (s + 2305843009213693951 - (o + 1) * powS n % 2305843009213693951) % 2305843009213693951) := rfl
  go_enter Try.func81, Try.ntmps81
  go_wp2_with fail
  refine (power_any n (by omega) _).mono ?_
  rintro e w' ⟨rfl, rfl⟩
  have hp := powS_lt n
  have hm : (o + 1) * powS n % 2305843009213693951 < 2305843009213693951 := Nat.mod_lt _ (by omega)
  go_wp2_with fail
  refine (mul_any (o + 1) (powS n) (by omega) hp _).mono ?_
  rintro e w' ⟨rfl, rfl⟩
  generalize (o + 1) * powS n % 2305843009213693951 = x at *
  go_wp2_with fail
  refine (rest_any _ (by omega) _).mono ?_
  rintro e w' ⟨rfl, rfl⟩
  go_wp2_with fail
  go_ret
  exact ⟨ret_int (by rw [HW.out]; omega), rfl⟩

end Go.Proofs.Ytbjlmhbpcopfbaa

/- Words for memory, of no program: which blocks a step leaves alone; a block known whole; a slice that reads as a list; a segment of a block of the call's own, and append to it. -/
namespace Go.Proofs.Ytbjlmhbpcopfbaa
open Go.RowKit

/-- A byte. -/
def bv (b : Nat) : Value := .int .u8 (b : Int)

/-- w' is w but for the blocks of S, and new blocks. -/
structure Keeps (S : List Nat) (w w' : World) : Prop where
  os : w'.os = w.os
  tape : w'.tape = w.tape
  output : w'.output = w.output
  size : w.heap.size ≤ w'.heap.size
  block : ∀ k, k < w.heap.size → k ∉ S → w'.heap[k]? = w.heap[k]?

theorem Keeps.refl (S : List Nat) (w : World) : Keeps S w w := ⟨rfl, rfl, rfl, Nat.le_refl _, fun _ _ _ => rfl⟩
theorem Keeps.trans {S : List Nat} {a b c : World} (h : Keeps S a b) (k : Keeps S b c) : Keeps S a c :=
  ⟨k.os.trans h.os, k.tape.trans h.tape, k.output.trans h.output, Nat.le_trans h.size k.size,
    fun i hi hs => (k.block i (Nat.lt_of_lt_of_le hi h.size) hs).trans (h.block i hi hs)⟩
/-- S' may name blocks that are new since a. -/
theorem Keeps.trans' {S S' : List Nat} {a b c : World} (h : Keeps S a b) (k : Keeps S' b c) (hs : ∀ x ∈ S', x ∈ S ∨ a.heap.size ≤ x) : Keeps S a c :=
  ⟨k.os.trans h.os, k.tape.trans h.tape, k.output.trans h.output, Nat.le_trans h.size k.size,
    fun i hi hn => (k.block i (Nat.lt_of_lt_of_le hi h.size) (fun hm => by rcases hs i hm with h1 | h1; exact hn h1; omega)).trans (h.block i hi hn)⟩
theorem Keeps.mono {S S' : List Nat} {a b : World} (h : Keeps S a b) (hs : ∀ x ∈ S, x ∈ S' ∨ a.heap.size ≤ x) : Keeps S' a b :=
  ⟨h.os, h.tape, h.output, h.size, fun i hi hn => h.block i hi (fun hm => by rcases hs i hm with h1 | h1; exact hn h1; omega)⟩
theorem Keeps.below {w w' : World} (h : Keeps [] w w') : Below w.heap.size w w' := ⟨h.os, h.tape, h.output, h.size, fun k hk => h.block k hk (by simp)⟩
theorem Keeps.of_below {S : List Nat} {w w' : World} (h : Below w.heap.size w w') : Keeps S w w' := ⟨h.os, h.tape, h.output, h.size, fun k hk _ => h.block k hk⟩
theorem Keeps.drew {S : List Nat} {a w : World} (h : Keeps S a w) : Keeps S a w.drew := ⟨h.os, h.tape, h.output, h.size, h.block⟩
theorem Keeps.drewN {S : List Nat} {a w : World} (h : Keeps S a w) (n : Nat) : Keeps S a (w.drewN n) := ⟨h.os, h.tape, h.output, h.size, h.block⟩
theorem Keeps.alloc {S : List Nat} {a w : World} (h : Keeps S a w) (o : Obj) : Keeps S a (w.alloc o) :=
  h.trans ⟨rfl, rfl, rfl, by simp, fun k hk _ => Below.heap_alloc _ _ _ hk⟩
theorem Keeps.setCell {S : List Nat} {a w : World} (h : Keeps S a w) {p : Addr} (u : Value) (hp : p.block ∈ S ∨ a.heap.size ≤ p.block) : Keeps S a (w.setCell p u) :=
  ⟨h.os, h.tape, h.output, by simpa using h.size, fun k hk hn => (Below.heap_setCell w p u k (fun e => by subst e; rcases hp with h1 | h1; exact hn h1; omega)).trans (h.block k hk hn)⟩
theorem Keeps.cell {S : List Nat} {w w' : World} (h : Keeps S w w') {p : Addr} (hp : p.block < w.heap.size) (hn : p.block ∉ S) : w'.cell? p = w.cell? p :=
  World.cell?_of_block (w := w) (h.block p.block hp hn)

/-- Block g is just the cells cs of type t, none frozen. -/
def Blk (w : World) (g : Nat) (t : TypeId) (cs : Array Value) : Prop := w.heap[g]? = some (.cells cs t (0, 0))
section
variable {w w' : World} {g : Nat} {t : TypeId} {cs : Array Value}
theorem Blk.lt (h : Blk w g t cs) : g < w.heap.size := (Array.getElem?_eq_some_iff.1 h).1
theorem Blk.cell (h : Blk w g t cs) (i : Nat) : w.cell? ⟨g, i, none⟩ = cs[i]? := cell_of_row w g i cs t (0, 0) h
theorem Blk.frozen (h : Blk w g t cs) (i : Nat) : w.frozen? ⟨g, i, none⟩ = false := by unfold Blk at h; simp [World.frozen?, h]
theorem Blk.new (w : World) (t : TypeId) (cs : Array Value) : Blk (w.alloc (.cells cs t)) w.heap.size t cs := heap_alloc_new w _
theorem Blk.newAt (w : World) (t : TypeId) (cs : Array Value) (n : Nat) (h : w.heap.size = n) : Blk (w.alloc (.cells cs t)) n t cs := h ▸ heap_alloc_new w _
theorem Blk.drew (h : Blk w g t cs) : Blk w.drew g t cs := h
theorem Blk.drewN (h : Blk w g t cs) (n : Nat) : Blk (w.drewN n) g t cs := h
theorem Blk.alloc (h : Blk w g t cs) (o : Obj) : Blk (w.alloc o) g t cs := (Below.heap_alloc w o g h.lt).trans h
theorem Blk.set (h : Blk w g t cs) (i : Nat) (u : Value) : Blk (w.setCell ⟨g, i, none⟩ u) g t (cs.setIfInBounds i u) := by
  unfold Blk at h ⊢
  simp [World.setCell, Array.getElem?_modify, h]
theorem Blk.far (h : Blk w g t cs) {p : Addr} (hp : g ≠ p.block) (u : Value) : Blk (w.setCell p u) g t cs := (Below.heap_setCell w p u g hp).trans h
theorem Blk.keeps {S : List Nat} (h : Blk w g t cs) (k : Keeps S w w') (hg : g ∉ S) : Blk w' g t cs := (k.block g h.lt hg).trans h
theorem Blk.below (h : Blk w g t cs) (k : Below w.heap.size w w') : Blk w' g t cs := (k.block g h.lt).trans h
end

/-- The cells from address A on read xs. -/
def Rd (w : World) (A : Option Addr) (xs : List Value) : Prop := ∀ j v, xs[j]? = some v → ∃ ad, A = some ad ∧ w.cell? (ad.add j) = some v
section
variable {w w' : World} {A : Option Addr} {xs : List Value}
theorem Rd.nil (w : World) (A : Option Addr) : Rd w A [] := fun j v h => by simp at h
theorem Rd.at_ (h : Rd w A xs) {j : Nat} (hj : j < xs.length) : ∃ ad, A = some ad ∧ w.cell? (ad.add j) = some xs[j] := h j _ (List.getElem?_eq_getElem hj)
theorem add_block (a : Addr) (n : Nat) : (a.add n).block = a.block := by unfold Addr.add; split <;> rfl
theorem add_add (a : Addr) (i j : Nat) : (a.add i).add j = a.add (i + j) := by
  unfold Addr.add
  by_cases hi : i = 0 <;> by_cases hj : j = 0 <;> simp [hi, hj, Nat.add_assoc]
theorem Rd.below (h : Rd w A xs) (k : Below w.heap.size w w') : Rd w' A xs := fun j v hv => by
  obtain ⟨ad, rfl, hc⟩ := h j v hv
  exact ⟨ad, rfl, (k.cell (World.block_lt_of_cell? w _ hc)).trans hc⟩
theorem Rd.keeps {S : List Nat} (h : Rd w A xs) (k : Keeps S w w') (hA : ∀ ad, A = some ad → ad.block ∉ S) : Rd w' A xs := fun j v hv => by
  obtain ⟨ad, rfl, hc⟩ := h j v hv
  exact ⟨ad, rfl, (k.cell (World.block_lt_of_cell? w _ hc) (by rw [add_block]; exact hA ad rfl)).trans hc⟩
theorem Rd.drew (h : Rd w A xs) : Rd w.drew A xs := h
theorem Rd.alloc (h : Rd w A xs) (o : Obj) : Rd (w.alloc o) A xs := fun j v hv => by
  obtain ⟨ad, rfl, hc⟩ := h j v hv
  exact ⟨ad, rfl, (World.cell?_alloc_lt w o _ (World.block_lt_of_cell? w _ hc)).trans hc⟩
theorem Rd.drop (h : Rd w A xs) (k : Nat) {c : Nat} (hc : xs.drop k ≠ [] → c ≠ k) : Rd w (if c = k then A else A.map (·.add k)) (xs.drop k) := fun j v hv => by
  have hne : xs.drop k ≠ [] := fun e => by rw [e] at hv; simp at hv
  rw [if_neg (hc hne)]
  rw [List.getElem?_drop] at hv
  obtain ⟨ad, rfl, hcell⟩ := h _ v hv
  exact ⟨ad.add k, rfl, by rw [add_add]; exact hcell⟩
theorem Rd.dropAt (h : Rd w A xs) (k : Nat) : Rd w (A.map (·.add k)) (xs.drop k) := fun j v hv => by
  rw [List.getElem?_drop] at hv
  obtain ⟨ad, rfl, hcell⟩ := h _ v hv
  exact ⟨ad.add k, rfl, by rw [add_add]; exact hcell⟩
theorem Rd.take (h : Rd w A xs) (n : Nat) : Rd w A (xs.take n) := fun j v hv => by
  rw [List.getElem?_take] at hv
  split at hv
  · exact h j v hv
  · cases hv
theorem Rd.of_blk {g : Nat} {t : TypeId} {cs : Array Value} (h : Blk w g t cs) (off : Nat) : Rd w (some ⟨g, off, none⟩) (cs.toList.drop off) := fun j v hv =>
  ⟨_, rfl, by rw [Addr.add_lit, h.cell]; simpa [List.getElem?_drop] using hv⟩
theorem Rd.of_blk0 {g : Nat} {t : TypeId} {cs : Array Value} (h : Blk w g t cs) : Rd w (some ⟨g, 0, none⟩) cs.toList := by simpa using Rd.of_blk h 0
end

/-- v is a slice of n elements of type e, sz cells each, that reads xs, in a block of S of which nothing else is known to hang; append may write behind it. -/
def Seg (w : World) (e : TypeId) (sz : Nat) (v : Value) (n : Nat) (xs : List Value) (S : List Nat) : Prop :=
  xs.length = n * sz ∧ ((v = .slice none 0 0 ∧ n = 0 ∧ S = []) ∨
   ∃ g off cap cs, v = .slice (some ⟨g, off, none⟩) n cap ∧ S = [g] ∧ Blk w g e cs ∧ off + cap * sz ≤ cs.size ∧ n ≤ cap ∧ cap ≤ maxLen ∧ ∀ j, j < n * sz → cs[off + j]? = xs[j]?)

section
variable {w w' : World} {e : TypeId} {sz n : Nat} {v : Value} {xs : List Value} {S : List Nat}
theorem Seg.nil (w : World) (e : TypeId) (sz : Nat) : Seg w e sz (.slice none 0 0) 0 [] [] := ⟨by simp, .inl ⟨rfl, rfl, rfl⟩⟩
theorem Seg.lt (h : Seg w e sz v n xs S) : ∀ x ∈ S, x < w.heap.size := by
  rcases h.2 with ⟨_, _, rfl⟩ | ⟨g, off, cap, cs, _, rfl, hb, _⟩
  · simp
  · intro x hx; simp at hx; subst hx; exact hb.lt
theorem Seg.keeps {S' : List Nat} (h : Seg w e sz v n xs S) (k : Keeps S' w w') (hd : ∀ x ∈ S, x ∉ S') : Seg w' e sz v n xs S := by
  refine ⟨h.1, ?_⟩
  rcases h.2 with h2 | ⟨g, off, cap, cs, hv, rfl, hb, rest⟩
  · exact .inl h2
  · exact .inr ⟨g, off, cap, cs, hv, rfl, hb.keeps k (hd g (by simp)), rest⟩
theorem Seg.below (h : Seg w e sz v n xs S) (k : Below w.heap.size w w') : Seg w' e sz v n xs S := h.keeps (Keeps.of_below (S := []) k) (by simp)
theorem Seg.drew (h : Seg w e sz v n xs S) : Seg w.drew e sz v n xs S := h
theorem Seg.drewN (h : Seg w e sz v n xs S) (m : Nat) : Seg (w.drewN m) e sz v n xs S := h
theorem Seg.alloc (h : Seg w e sz v n xs S) (o : Obj) : Seg (w.alloc o) e sz v n xs S := h.keeps ((Keeps.refl [] w).alloc o) (by simp)
/-- As a value: its address, its cells. -/
theorem Seg.form (h : Seg w e sz v n xs S) : ∃ A cap, v = .slice A n cap ∧ n ≤ cap ∧ cap ≤ maxLen ∧ Rd w A xs ∧ (∀ ad, A = some ad → ad.block ∈ S) ∧ (A = none → n = 0 ∧ cap = 0) := by
  rcases h.2 with ⟨hv, rfl, rfl⟩ | ⟨g, off, cap, cs, hv, rfl, hb, hs, hn, hm, hx⟩
  · have : xs = [] := List.eq_nil_of_length_eq_zero (by simpa using h.1)
    subst this
    exact ⟨none, 0, hv, Nat.le_refl _, by simp [maxLen], Rd.nil _ _, by simp, by simp⟩
  · refine ⟨_, cap, hv, hn, hm, fun j u hu => ⟨_, rfl, ?_⟩, by simp, by simp⟩
    have hj : j < n * sz := by rw [← h.1]; exact (List.getElem?_eq_some_iff.1 hu).1
    rw [Addr.add_lit, hb.cell, hx j hj, hu]
theorem Seg.ofBlk {g : Nat} {cs : Array Value} {cap : Nat} (hb : Blk w g e cs) (hc : cs.size = cap * sz) (hm : cap ≤ maxLen) : Seg w e sz (.slice (some ⟨g, 0, none⟩) cap cap) cap cs.toList [g] :=
  ⟨by simpa using hc, .inr ⟨g, 0, cap, cs, rfl, rfl, hb, by omega, Nat.le_refl _, hm, fun j _ => by simp⟩⟩
end

section
variable {P : Program} (w : World)
theorem run_append_seg_room (t ty e : TypeId) (i : TypeInfo) (ht : P.underlying t = some (.slice e)) (hi : P.info? e = some i)
    (g off n cap : Nat) (cur : Array Value) (hg : Blk w g e cur)
    (a : Addr) (m c : Nat) (news : List Value) (hl : news.length = m * i.size) (hnews : ∀ j u, news[j]? = some u → w.cell? (a.add j) = some u) (h1 : ∀ u ∈ news, u.oneCell' = true)
    (hroom : n + m ≤ cap) (hfit : off + n * i.size + news.length ≤ cur.size) :
    (Builtin.append_ #[t, t] ty #[.slice (some ⟨g, off, none⟩) n cap, .slice (some a) m c]).run P w =
      .ok (.slice (some ⟨g, off, none⟩) (n + m) cap) (w.setRow g (cur.toList.take (off + n * i.size) ++ news ++ cur.toList.drop (off + n * i.size + news.length)).toArray) := by
  have hf := run_firstCells_some (P := P) w i.size m a m c news hl hnews
  have hst := run_storeCells_at P g (off + n * i.size) e news 0 cur w hg (by simpa using hfit) h1
  simp only [Nat.add_zero] at hst
  simp [Builtin.append_, run_underlying ht, sizeOf, typeInfo, hi, Builtin.lenOf, hroom, hf, Addr.add_lit, hst]

/-- append to a segment: what comes of it; which block it lies in. -/
theorem run_append_seg (t ty e : TypeId) (i : TypeInfo) (z : Value) (size bytes : Nat) (ht : P.underlying t = some (.slice e)) (hi : P.info? e = some i) (hz : i.zero = some z)
    (hsize : i.size = size) (hby : i.bytes = bytes) (hzs : z.cells.size = size)
    (v : Value) (n : Nat) (xs : List Value) (S : List Nat) (hseg : Seg w e size v n xs S)
    (A : Option Addr) (m c : Nat) (news : List Value) (hl : news.length = m * size) (hnews : Rd w A news) (hA : A = none → m = 0) (h1 : ∀ u ∈ news, u.oneCell' = true)
    (h63 : n + m ≤ maxLen) (hbytes : (n + m) * bytes ≤ 140737488355328) :
    ∃ v' w' S', (Builtin.append_ #[t, t] ty #[v, .slice A m c]).run P w = .ok v' w' ∧ Seg w' e size v' (n + m) (xs ++ news) S' ∧ Keeps S w w' ∧ (S' = S ∨ S' = [w.heap.size]) := by
  subst hsize
  subst hby
  have hsmall : n + m ≤ 9223372036854775807 := by simp only [maxLen] at h63; omega
  have hlen : (xs ++ news).length = (n + m) * i.size := by rw [List.length_append, hseg.1, hl, Nat.add_mul]
  by_cases hm : m = 0
  · subst hm
    have hn : news = [] := List.eq_nil_of_length_eq_zero (by simpa using hl)
    subst hn
    refine ⟨v, w, S, ?_, by simpa using hseg, Keeps.refl _ _, .inl rfl⟩
    rcases hseg.2 with ⟨rfl, rfl, _⟩ | ⟨g, off, cap, cs, rfl, _, _, _, hnc, _⟩
    · cases A <;> simp [Builtin.append_, run_underlying ht, sizeOf, typeInfo, hi, Builtin.lenOf, Builtin.firstCells, loadCells, loadCellsFrom]
    · cases A <;> simp [Builtin.append_, run_underlying ht, sizeOf, typeInfo, hi, Builtin.lenOf, Builtin.firstCells, loadCells, loadCellsFrom, storeCells, hnc]
  · obtain ⟨a, rfl⟩ : ∃ a, A = some a := by
      cases A with
      | none => exact absurd (hA rfl) hm
      | some a => exact ⟨a, rfl⟩
    have hnews' : ∀ j u, news[j]? = some u → w.cell? (a.add j) = some u := fun j u hu => by
      obtain ⟨ad, e, h⟩ := hnews j u hu
      injection e with e; subst e; exact h
    have grown : ∀ (old : Nat), old < n + m →
        Seg (w.drew.alloc (.cells (xs.toArray ++ news.toArray ++ Builtin.zeroCells z.cells (grownCap w (n + m) old e - (n + m))) e)) e i.size
          (.slice (some ⟨w.heap.size, 0, none⟩) (n + m) (grownCap w (n + m) old e)) (n + m) (xs ++ news) [w.heap.size] := by
      intro old ho
      have hge := grownCap_ge w (n + m) old e
      have hcm : grownCap w (n + m) old e ≤ maxLen := grownCap_le_maxLen w (n + m) old e h63
      refine ⟨hlen, .inr ⟨w.heap.size, 0, _, _, rfl, rfl, Blk.new w.drew _ _, ?_, hge, hcm, ?_⟩⟩
      · simp only [Array.size_append, List.size_toArray, size_zeroCells, hzs, hseg.1, hl, ← Nat.add_mul, Nat.zero_add]
        exact Nat.mul_le_mul_right _ (by omega)
      · intro j hj
        rw [← hlen] at hj
        simp only [Nat.zero_add]
        rw [Array.getElem?_append_left (by simpa using hj)]
        simp
    rcases hseg.2 with ⟨rfl, rfl, rfl⟩ | ⟨g, off, cap, cur, rfl, rfl, hg, hfit, hnc, hcm, hx⟩
    · have hx : xs = [] := List.eq_nil_of_length_eq_zero (by simpa using hseg.1)
      subst hx
      have hr := run_append_nil (P := P) w t ty e i z ht hi hz a m c news hl hnews' (by omega) (by omega) (by have hb := hbytes; simp only [Nat.zero_add] at hb; omega)
      have hgr := grown 0 (by omega)
      simp only [Nat.zero_add, List.nil_append, Array.empty_append] at hgr ⊢
      exact ⟨_, _, _, hr, hgr, ((Keeps.refl [] w).drew).alloc _, .inr rfl⟩
    · by_cases hroom : n + m ≤ cap
      · have hk : (n + m) * i.size ≤ cap * i.size := Nat.mul_le_mul_right _ hroom
        have hnl : n * i.size + news.length = (n + m) * i.size := by rw [hl, Nat.add_mul]
        have hr := run_append_seg_room (P := P) w t ty e i ht hi g off n cap cur hg a m c news hl hnews' h1 hroom (by omega)
        refine ⟨_, _, [g], hr, ⟨hlen, .inr ⟨g, off, cap, _, rfl, rfl, setRow_heap w g cur _ e _ hg, ?_, hroom, hcm, ?_⟩⟩,
          ⟨rfl, rfl, rfl, by simp, fun k _ hn => setRow_other w g k _ (fun e => hn (by simp [e]))⟩, .inl rfl⟩
        · simp only [List.size_toArray, List.length_append, List.length_take, List.length_drop, Array.length_toList]
          omega
        · intro j hj
          have hlt : off + n * i.size ≤ cur.size := by omega
          simp only [List.getElem?_toArray]
          by_cases hjn : j < n * i.size
          · rw [List.append_assoc, List.getElem?_append_left (by simp; omega), List.getElem?_take, if_pos (by omega), List.getElem?_append_left (by rw [hseg.1]; exact hjn), ← hx j hjn]
            simp
          · rw [List.getElem?_append_left (by simp; omega), List.getElem?_append_right (by simp; omega), List.getElem?_append_right (by rw [hseg.1]; omega)]
            congr 1
            simp only [List.length_take, Array.length_toList, hseg.1]
            omega
      · have holds : ∀ j u, xs[j]? = some u → w.cell? ((⟨g, off, none⟩ : Addr).add j) = some u := fun j u hu => by
          have hj : j < n * i.size := by rw [← hseg.1]; exact (List.getElem?_eq_some_iff.1 hu).1
          rw [Addr.add_lit, hg.cell, hx j hj, hu]
        have hr := run_append_grow (P := P) w t ty e i z ht hi hz ⟨g, off, none⟩ n cap xs hseg.1 holds a m c news hl hnews' (by omega) (by omega) (growslice_fits (by omega) hbytes)
        exact ⟨_, _, _, hr, grown cap (by omega), ((Keeps.refl [g] w).drew).alloc _, .inr rfl⟩

theorem wp_append_seg {o : Oper} {a : Act} {K : Act → World → Prop} {Q : Exit → Act → World → Prop} (s x : Operand) (t : TypeId)
    (ho : o.op = .call { callee := .builtin .append, args := #[s, x], argTypes := #[t, t] })
    (e : TypeId) (z : Value) (size bytes : Nat) (ht : P.underlying t = some (.slice e)) (hi : (P.info? e).map (fun i => (i.zero, i.size, i.bytes)) = some (some z, size, bytes)) (hzs : z.cells.size = size)
    (v : Value) (n : Nat) (xs : List Value) (S : List Nat) (hs : a.eval s = v) (hseg : Seg w e size v n xs S)
    (A : Option Addr) (m c : Nat) (news : List Value) (hx : a.eval x = .slice A m c) (hl : news.length = m * size) (hnews : Rd w A news) (hA : A = none → m = 0) (h1 : ∀ u ∈ news, u.oneCell' = true)
    (h63 : n + m ≤ maxLen) (hbytes : (n + m) * bytes ≤ 140737488355328)
    (h : ∀ v' w' S', Seg w' e size v' (n + m) (xs ++ news) S' → Keeps S w w' → (S' = S ∨ S' = [w.heap.size]) → K (a.put o.dst v') w') : o.wp P a w K Q := by
  obtain ⟨i, hi, hz, hsize, hby⟩ := info_parts hi
  obtain ⟨v', w', S', hr, h2, h3, h4⟩ := run_append_seg (P := P) w t o.type e i z size bytes ht hi hz hsize hby hzs v n xs S hseg A m c news hl hnews hA h1 h63 hbytes
  unfold Oper.wp execOp
  simp only [ho, resolve, invoke, builtin, Sem.run_bind, Sem.run_pure, Result.andThen_ok, List.map_toArray, List.map_cons, List.map_nil, hs, hx, hr]
  exact h v' w' S' h2 h3 h4

theorem wpList_append_seg {ops : Array Oper} {rest : List Oper} {o : Oper} {a : Act} {Q : Exit → Act → World → Prop} (hgd : o.guard = none) (s x : Operand) (t : TypeId)
    (ho : o.op = .call { callee := .builtin .append, args := #[s, x], argTypes := #[t, t] })
    (e : TypeId) (z : Value) (size bytes : Nat) (ht : P.underlying t = some (.slice e)) (hi : (P.info? e).map (fun i => (i.zero, i.size, i.bytes)) = some (some z, size, bytes)) (hzs : z.cells.size = size)
    (v : Value) (n : Nat) (xs : List Value) (S : List Nat) (hs : a.eval s = v) (hseg : Seg w e size v n xs S)
    (A : Option Addr) (m c : Nat) (news : List Value) (hx : a.eval x = .slice A m c) (hl : news.length = m * size) (hnews : Rd w A news) (hA : A = none → m = 0) (h1 : ∀ u ∈ news, u.oneCell' = true)
    (h63 : n + m ≤ maxLen) (hbytes : (n + m) * bytes ≤ 140737488355328)
    (h : ∀ v' w' S', Seg w' e size v' (n + m) (xs ++ news) S' → Keeps S w w' → (S' = S ∨ S' = [w.heap.size]) → wpList P ops Q rest (a.put o.dst v') w') : wpList P ops Q (o :: rest) a w :=
  wpList_plain hgd fun _ hK => wp_append_seg w s x t ho e z size bytes ht hi hzs v n xs S hs hseg A m c news hx hl hnews hA h1 h63 hbytes fun v' w' S' h2 h3 h4 => hK _ _ (h v' w' S' h2 h3 h4)
end
end Go.Proofs.Ytbjlmhbpcopfbaa

/- Walks of package roll's functions over memory: New, Add, Sum, Len, Reset, Of. -/
namespace Go.Proofs.Ytbjlmhbpcopfbaa
open Go.RowKit

theorem info_u8r : (Try.prog.info? 5).map (fun i => (i.zero, i.size, i.bytes)) = some (some (.int .u8 0), 1, 1) := by kernel_rfl
def RollAt (w : World) (g : Nat) (S : List Nat) (W : Nat) (l : List Nat) (s : Nat) : Prop :=
  ∃ v, Blk w g 127 #[.int .i64 (W : Int), v, .int .u64 (s : Int)] ∧ Seg w 5 1 v l.length (l.map bv) S ∧ g ∉ S

theorem New_any (a : Int) (w : World) :
    Calls Try.prog 72 #[.int .i64 a] w fun e w' => ∃ g, e = .returned (.pointer (some ⟨g, 0, none⟩)) ∧ w.heap.size = g ∧ RollAt w' g [] (holdS a) [] 0 ∧ Below w.heap.size w w' := by
  go_enter Try.func72, Try.ntmps72
  go_wp2_with (first | (go_at_call 80; refine (hold_any _ _).mono ?_; rintro e w' ⟨rfl, rfl⟩))
  go_ret
  exact ⟨_, rfl, rfl, ⟨_, Blk.new _ _ _, Seg.nil _ _ _, by simp⟩, (Below.refl _ _).alloc (Nat.le_refl _) _⟩

set_option maxRecDepth 100000 in
theorem Add_room (g W s n cap c : Nat) (A : Option Addr) (l : List Nat) (S : List Nat) (w : World)
    (hb : Blk w g 127 #[.int .i64 (W : Int), .slice A n cap, .int .u64 (s : Int)]) (hl : Seg w 5 1 (.slice A n cap) n (l.map bv) S) (hg : g ∉ S)
    (hn : n < W) (hW : W ≤ 64) (hs : s < 2305843009213693951) (hc : c < 256) :
    Calls Try.prog 73 #[.pointer (some ⟨g, 0, none⟩), .int .u8 c] w fun e w' => e = .returned (.int .u64 (onS s c)) ∧
      ∃ S', RollAt w' g S' W (l ++ [c]) (onS s c) ∧ Keeps (g :: S) w w' ∧ ∀ x ∈ S', x ∈ S ∨ w.heap.size ≤ x := by
  have c0 : w.cell? ⟨g, 0, none⟩ = some (.int .i64 W) := hb.cell 0
  have c1 : w.cell? ⟨g, 1, none⟩ = some (.slice A n cap) := hb.cell 1
  have c2 : w.cell? ⟨g, 2, none⟩ = some (.int .u64 s) := hb.cell 2
  have f1 := hb.frozen 1
  have f2 := hb.frozen 2
  have hne : ((n : Int) == (W : Int)) = false := by simp; omega
  go_enter Try.func73, Try.ntmps73
  go_wp2_with fail
  go_quiet (fail)
  go_wp2_with (at_builtin; refine wpList_append_seg _ rfl (.tmp 45) (.tmp 47) 22 rfl 5 (.int .u8 0) 1 1 Try.underlying22 info_u8r rfl (.slice A n cap) n (l.map bv) S rfl ((hl.drewN _).alloc _) (some ⟨w.heap.size, 0, none⟩) 1 1 [bv c] rfl rfl (Rd.of_blk0 (Blk.new _ _ #[bv c])) (by simp) (by simp [bv, Value.oneCell']) (by simp only [maxLen]; omega) (by omega) ?_)
  intro v' w2 S' hseg hk hS
  obtain ⟨A', cap', rfl, _⟩ := hseg.form
  have hb1 : Blk w2 g 127 #[.int .i64 (W : Nat), .slice A n cap, .int .u64 (s : Nat)] := ((hb.drewN _).alloc _).keeps hk hg
  have hgS : g ∉ S' := by
    rcases hS with rfl | rfl
    · exact hg
    · have := hb.lt; simp at this ⊢; omega
  have hK : Keeps (g :: S) w w2 := (((Keeps.refl (g :: S) w).drewN _).alloc _).trans' hk (fun x hx => .inl (List.mem_cons_of_mem _ hx))
  have hS' : ∀ x ∈ S', x ∈ S ∨ w.heap.size ≤ x := by
    rcases hS with rfl | rfl
    · exact fun x hx => .inl hx
    · intro x hx; simp at hx; omega
  clear hS hk c0 c1 c2 f1 f2
  have f1 := hb1.frozen 1
  have f2 := hb1.frozen 2
  have c1 : w2.cell? ⟨g, 1, none⟩ = some (.slice A n cap) := hb1.cell 1
  have c2 : w2.cell? ⟨g, 2, none⟩ = some (.int .u64 (s : Nat)) := hb1.cell 2
  go_wp2_with fail
  refine (on_any (s) c hs hc _).mono ?_
  rintro e w' ⟨rfl, rfl⟩
  go_wp2_with fail
  go_ret
  have hlen : (l ++ [c]).length = n + 1 := by have := hseg.1; simp at this ⊢; omega
  refine ⟨rfl, S', ⟨.slice A' (n + 1) cap', (hb1.set 1 _).set 2 _, ?_, hgS⟩, (hK.setCell _ (by simp)).setCell _ (by simp), hS'⟩
  rw [hlen, List.map_append]
  exact (hseg.keeps (((Keeps.refl [g] w2).setCell _ (by simp)).setCell _ (by simp)) (by intro x hx e; simp at e; subst e; exact hgS hx))

theorem Seg.tail1 {w : World} {e : TypeId} {b off n cap : Nat} {x : Value} {xs : List Value} {S : List Nat} (h : Seg w e 1 (.slice (some ⟨b, off, none⟩) (n + 1) cap) (n + 1) (x :: xs) S) :
    Seg w e 1 (.slice (some (if cap = 1 then ⟨b, off, none⟩ else ⟨b, off + 1, none⟩)) n (cap - 1)) n xs S := by
  refine ⟨by have := h.1; simp at this ⊢; omega, .inr ?_⟩
  rcases h.2 with ⟨h2, _⟩ | ⟨g, o, c, cs, hv, hS, hb, hs, hn, hm, hx⟩
  · simp at h2
  · simp only [Value.slice.injEq, Option.some.injEq, Addr.mk.injEq, and_true, true_and] at hv
    obtain ⟨⟨rfl, rfl⟩, rfl⟩ := hv
    by_cases h1 : cap = 1
    · exact ⟨b, off, cap - 1, cs, by rw [if_pos h1], hS, hb, by omega, by omega, by omega, fun j hj => by omega⟩
    · refine ⟨b, off + 1, cap - 1, cs, by rw [if_neg h1], hS, hb, by omega, by omega, by omega, fun j hj => ?_⟩
      have := hx (j + 1) (by omega)
      rw [show off + 1 + j = off + (j + 1) by omega, this]
      simp
set_option maxHeartbeats 800000 in
set_option maxRecDepth 100000 in
theorem Add_full (g s n cap c o b off : Nat) (l : List Nat) (S : List Nat) (w : World)
    (hb : Blk w g 127 #[.int .i64 ((n + 1 : Nat) : Int), .slice (some ⟨b, off, none⟩) (n + 1) cap, .int .u64 (s : Int)]) (hl : Seg w 5 1 (.slice (some ⟨b, off, none⟩) (n + 1) cap) (n + 1) ((o :: l).map bv) S) (hg : g ∉ S)
    (hW : n + 1 ≤ 64) (hc1 : cap ≠ 1) (hs : s < 2305843009213693951) (hc : c < 256) (ho : o < 256) :
    Calls Try.prog 73 #[.pointer (some ⟨g, 0, none⟩), .int .u8 c] w fun e w' => e = .returned (.int .u64 (onS (withoutS s o (n + 1)) c)) ∧
      ∃ S', RollAt w' g S' (n + 1) (l ++ [c]) (onS (withoutS s o (n + 1)) c) ∧ Keeps (g :: S) w w' ∧ ∀ x ∈ S', x ∈ S ∨ w.heap.size ≤ x := by
  have hcap : n + 1 ≤ cap := by
    obtain ⟨A', c', hv, h, _⟩ := hl.form
    simp only [Value.slice.injEq, true_and] at hv
    omega
  have cb : w.cell? ⟨b, off, none⟩ = some (.int .u8 o) := by
    obtain ⟨A', c', hv, _, _, h, _⟩ := hl.form
    simp only [Value.slice.injEq, true_and] at hv
    obtain ⟨ad, e, hc⟩ := h 0 (bv o) (by simp)
    rw [← hv.1] at e
    injection e with e
    subst e
    simpa [bv, Addr.add_zero'] using hc
  have cb' : ∀ k, (w.drewN k).cell? ⟨b, off, none⟩ = some (.int .u8 o) := fun _ => cb
  have hbS : b ∈ S := by
    obtain ⟨A', c', hv, _, _, _, h, _⟩ := hl.form
    simp only [Value.slice.injEq, true_and] at hv
    exact h _ hv.1.symm
  have hgb : g ≠ b := fun e => hg (e ▸ hbS)
  have hs2 := withoutS_lt s o (n + 1)
  have hW0 : 0 < n + 1 := by omega
  have hl2 := hl.tail1
  rw [if_neg hc1] at hl2
  have c0 : w.cell? ⟨g, 0, none⟩ = some (.int .i64 (n + 1 : Nat)) := hb.cell 0
  have c1 : w.cell? ⟨g, 1, none⟩ = some (.slice (some ⟨b, off, none⟩) (n + 1) cap) := hb.cell 1
  have c2 : w.cell? ⟨g, 2, none⟩ = some (.int .u64 s) := hb.cell 2
  have f1 := hb.frozen 1
  have f2 := hb.frozen 2
  go_enter Try.func73, Try.ntmps73
  go_wp2_with fail
  go_quiet (fail)
  go_wp2_with fail
  have hKq : Keeps (g :: S) w (w.drewN nq) := (Keeps.refl _ _).drewN nq
  replace hb := hb.drewN nq
  replace hl2 := hl2.drewN nq
  have hsz : w.heap.size = (w.drewN nq).heap.size := rfl
  have cbq := cb' nq
  clear cb'
  generalize w.drewN nq = w1 at *
  clear c0 c1 c2 cb f1 f2
  have c0 : w1.cell? ⟨g, 0, none⟩ = some (.int .i64 (n + 1 : Nat)) := hb.cell 0
  have c1 : w1.cell? ⟨g, 1, none⟩ = some (.slice (some ⟨b, off, none⟩) (n + 1) cap) := hb.cell 1
  have c2 : w1.cell? ⟨g, 2, none⟩ = some (.int .u64 s) := hb.cell 2
  have f1 := hb.frozen 1
  have f2 := hb.frozen 2
  have hb3 := (hb.set 2 (.int .u64 (withoutS s o (n + 1) : Nat))).set 1 (.slice (some ⟨b, off + 1, none⟩) n (cap - 1))
  have hl3 := hl2.keeps (((Keeps.refl [g] w1).setCell (p := ⟨g, 2, none⟩) (.int .u64 (withoutS s o (n + 1) : Nat)) (by simp)).setCell (p := ⟨g, 1, none⟩) (.slice (some ⟨b, off + 1, none⟩) n (cap - 1)) (by simp)) (by intro x hx e; simp at e; subst e; exact hg hx)
  have hk3 := (hKq.setCell (p := ⟨g, 2, none⟩) (.int .u64 (withoutS s o (n + 1) : Nat)) (by simp)).setCell (p := ⟨g, 1, none⟩) (.slice (some ⟨b, off + 1, none⟩) n (cap - 1)) (by simp)
  go_still_tail 16, (by kernel_rfl)
  still_call ((without_any s o (n + 1) hs ho (by omega) (by omega) _).mono fun e w' h => ⟨h.1, h.2.symm⟩)
  refine wpStill_nil ?_
  go_wp2_with (at_builtin; refine wpList_append_seg _ rfl (.tmp 45) (.tmp 47) 22 rfl 5 (.int .u8 0) 1 1 Try.underlying22 info_u8r rfl (.slice (some ⟨b, off + 1, none⟩) n (cap - 1)) n (l.map bv) S rfl ((hl3.alloc _).drew) (some ⟨w1.heap.size, 0, none⟩) 1 1 [bv c] rfl rfl (Rd.drew (Rd.of_blk0 (Blk.newAt _ _ #[bv c] _ (by simp)))) (by simp) (by simp [bv, Value.oneCell']) (by simp only [maxLen]; omega) (by omega) ?_)
  intro v' w2 S' hseg hk hS
  obtain ⟨A', cap', rfl, _⟩ := hseg.form
  have hb1 : Blk w2 g 127 #[.int .i64 (n + 1 : Nat), .slice (some ⟨b, off + 1, none⟩) n (cap - 1), .int .u64 (withoutS s o (n + 1) : Nat)] := ((hb3.alloc _).drew).keeps hk hg
  have hgS : g ∉ S' := by
    rcases hS with rfl | rfl
    · exact hg
    · have := hb.lt; simp at this ⊢; omega
  have hK : Keeps (g :: S) w w2 := ((hk3.alloc _).drew).trans' hk (fun x hx => .inl (List.mem_cons_of_mem _ hx))
  have hS' : ∀ x ∈ S', x ∈ S ∨ w.heap.size ≤ x := by
    rcases hS with rfl | rfl
    · exact fun x hx => .inl hx
    · intro x hx; simp at hx; omega
  clear hS hk c0 c1 c2 f1 f2
  have f1 := hb1.frozen 1
  have f2 := hb1.frozen 2
  have c1 : w2.cell? ⟨g, 1, none⟩ = some (.slice (some ⟨b, off + 1, none⟩) n (cap - 1)) := hb1.cell 1
  have c2 : w2.cell? ⟨g, 2, none⟩ = some (.int .u64 (withoutS s o (n + 1) : Nat)) := hb1.cell 2
  go_wp2_with fail
  refine (on_any (withoutS s o (n + 1)) c hs2 hc _).mono ?_
  rintro e w' ⟨rfl, rfl⟩
  go_wp2_with fail
  go_ret
  have hlen : (l ++ [c]).length = n + 1 := by have := hseg.1; simp at this ⊢; omega
  refine ⟨rfl, S', ⟨.slice A' (n + 1) cap', (hb1.set 1 _).set 2 _, ?_, hgS⟩, (hK.setCell _ (by simp)).setCell _ (by simp), hS'⟩
  rw [hlen, List.map_append]
  exact (hseg.keeps (((Keeps.refl [g] w2).setCell _ (by simp)).setCell _ (by simp)) (by intro x hx e; simp at e; subst e; exact hgS hx))

set_option maxHeartbeats 800000 in
set_option maxRecDepth 100000 in
theorem Add_full1 (g s c o b off : Nat) (l : List Nat) (S : List Nat) (w : World)
    (hb : Blk w g 127 #[.int .i64 ((1 : Nat) : Int), .slice (some ⟨b, off, none⟩) 1 1, .int .u64 (s : Int)]) (hl : Seg w 5 1 (.slice (some ⟨b, off, none⟩) 1 1) 1 ((o :: l).map bv) S) (hg : g ∉ S)
    (hs : s < 2305843009213693951) (hc : c < 256) (ho : o < 256) :
    Calls Try.prog 73 #[.pointer (some ⟨g, 0, none⟩), .int .u8 c] w fun e w' => e = .returned (.int .u64 (onS (withoutS s o 1) c)) ∧
      ∃ S', RollAt w' g S' 1 (l ++ [c]) (onS (withoutS s o 1) c) ∧ Keeps (g :: S) w w' ∧ ∀ x ∈ S', x ∈ S ∨ w.heap.size ≤ x := by
  have cb : w.cell? ⟨b, off, none⟩ = some (.int .u8 o) := by
    obtain ⟨A', c', hv, _, _, h, _⟩ := hl.form
    simp only [Value.slice.injEq, true_and] at hv
    obtain ⟨ad, e, hc⟩ := h 0 (bv o) (by simp)
    rw [← hv.1] at e
    injection e with e
    subst e
    simpa [bv, Addr.add_zero'] using hc
  have cb' : ∀ k, (w.drewN k).cell? ⟨b, off, none⟩ = some (.int .u8 o) := fun _ => cb
  have hbS : b ∈ S := by
    obtain ⟨A', c', hv, _, _, _, h, _⟩ := hl.form
    simp only [Value.slice.injEq, true_and] at hv
    exact h _ hv.1.symm
  have hgb : g ≠ b := fun e => hg (e ▸ hbS)
  have hs2 := withoutS_lt s o 1
  have hW0 : 0 < 1 := by omega
  have hl2 := hl.tail1
  rw [if_pos rfl] at hl2
  have c0 : w.cell? ⟨g, 0, none⟩ = some (.int .i64 (1 : Nat)) := hb.cell 0
  have c1 : w.cell? ⟨g, 1, none⟩ = some (.slice (some ⟨b, off, none⟩) 1 1) := hb.cell 1
  have c2 : w.cell? ⟨g, 2, none⟩ = some (.int .u64 s) := hb.cell 2
  have f1 := hb.frozen 1
  have f2 := hb.frozen 2
  go_enter Try.func73, Try.ntmps73
  go_wp2_with fail
  go_quiet (fail)
  go_wp2_with fail
  have hKq : Keeps (g :: S) w (w.drewN nq) := (Keeps.refl _ _).drewN nq
  replace hb := hb.drewN nq
  replace hl2 := hl2.drewN nq
  have hsz : w.heap.size = (w.drewN nq).heap.size := rfl
  have cbq := cb' nq
  clear cb'
  generalize w.drewN nq = w1 at *
  clear c0 c1 c2 cb f1 f2
  have c0 : w1.cell? ⟨g, 0, none⟩ = some (.int .i64 (1 : Nat)) := hb.cell 0
  have c1 : w1.cell? ⟨g, 1, none⟩ = some (.slice (some ⟨b, off, none⟩) 1 1) := hb.cell 1
  have c2 : w1.cell? ⟨g, 2, none⟩ = some (.int .u64 s) := hb.cell 2
  have f1 := hb.frozen 1
  have f2 := hb.frozen 2
  have hb3 := (hb.set 2 (.int .u64 (withoutS s o 1 : Nat))).set 1 (.slice (some ⟨b, off, none⟩) 0 0)
  have hl3 := hl2.keeps (((Keeps.refl [g] w1).setCell (p := ⟨g, 2, none⟩) (.int .u64 (withoutS s o 1 : Nat)) (by simp)).setCell (p := ⟨g, 1, none⟩) (.slice (some ⟨b, off, none⟩) 0 0) (by simp)) (by intro x hx e; simp at e; subst e; exact hg hx)
  have hk3 := (hKq.setCell (p := ⟨g, 2, none⟩) (.int .u64 (withoutS s o 1 : Nat)) (by simp)).setCell (p := ⟨g, 1, none⟩) (.slice (some ⟨b, off, none⟩) 0 0) (by simp)
  go_still_tail 16, (by kernel_rfl)
  still_call ((without_any s o 1 hs ho (by omega) (by omega) _).mono fun e w' h => ⟨h.1, h.2.symm⟩)
  refine wpStill_nil ?_
  go_wp2_with (at_builtin; refine wpList_append_seg _ rfl (.tmp 45) (.tmp 47) 22 rfl 5 (.int .u8 0) 1 1 Try.underlying22 info_u8r rfl (.slice (some ⟨b, off, none⟩) 0 0) 0 (l.map bv) S rfl ((hl3.alloc _).drew) (some ⟨w1.heap.size, 0, none⟩) 1 1 [bv c] rfl rfl (Rd.drew (Rd.of_blk0 (Blk.newAt _ _ #[bv c] _ (by simp)))) (by simp) (by simp [bv, Value.oneCell']) (by simp only [maxLen]; omega) (by omega) ?_)
  intro v' w2 S' hseg hk hS
  obtain ⟨A', cap', rfl, _⟩ := hseg.form
  have hb1 : Blk w2 g 127 #[.int .i64 (1 : Nat), .slice (some ⟨b, off, none⟩) 0 0, .int .u64 (withoutS s o 1 : Nat)] := ((hb3.alloc _).drew).keeps hk hg
  have hgS : g ∉ S' := by
    rcases hS with rfl | rfl
    · exact hg
    · have := hb.lt; simp at this ⊢; omega
  have hK : Keeps (g :: S) w w2 := ((hk3.alloc _).drew).trans' hk (fun x hx => .inl (List.mem_cons_of_mem _ hx))
  have hS' : ∀ x ∈ S', x ∈ S ∨ w.heap.size ≤ x := by
    rcases hS with rfl | rfl
    · exact fun x hx => .inl hx
    · intro x hx; simp at hx; omega
  clear hS hk c0 c1 c2 f1 f2
  have f1 := hb1.frozen 1
  have f2 := hb1.frozen 2
  have c1 : w2.cell? ⟨g, 1, none⟩ = some (.slice (some ⟨b, off, none⟩) 0 0) := hb1.cell 1
  have c2 : w2.cell? ⟨g, 2, none⟩ = some (.int .u64 (withoutS s o 1 : Nat)) := hb1.cell 2
  go_wp2_with fail
  refine (on_any (withoutS s o 1) c hs2 hc _).mono ?_
  rintro e w' ⟨rfl, rfl⟩
  go_wp2_with fail
  go_ret
  have hlen : (l ++ [c]).length = 1 := by have := hseg.1; simp at this ⊢; omega
  refine ⟨rfl, S', ⟨.slice A' 1 cap', (hb1.set 1 _).set 2 _, ?_, hgS⟩, (hK.setCell _ (by simp)).setCell _ (by simp), hS'⟩
  rw [hlen, List.map_append]
  exact (hseg.keeps (((Keeps.refl [g] w2).setCell _ (by simp)).setCell _ (by simp)) (by intro x hx e; simp at e; subst e; exact hgS hx))
end Go.Proofs.Ytbjlmhbpcopfbaa

/- Walks of package roll, the rest: Add in one word, Reset, Of; awake of layer 5. -/
namespace Go.Proofs.Ytbjlmhbpcopfbaa
open Go.RowKit

/-- A window's list and sum behind one more byte. -/
def stepL (W : Nat) (l : List Nat) (c : Nat) : List Nat := if l.length = W then l.tail ++ [c] else l ++ [c]
def stepS (W : Nat) (l : List Nat) (s c : Nat) : Nat := if l.length = W then onS (withoutS s (l.headD 0) W) c else onS s c
theorem RollAt.blk {w : World} {g W s : Nat} {S l : List Nat} (h : RollAt w g S W l s) : ∃ A cap, Blk w g 127 #[.int .i64 (W : Int), .slice A l.length cap, .int .u64 (s : Int)] ∧ Seg w 5 1 (.slice A l.length cap) l.length (l.map bv) S ∧ g ∉ S := by
  obtain ⟨v, hb, hl, hg⟩ := h
  obtain ⟨A, cap, rfl, _⟩ := hl.form
  exact ⟨A, cap, hb, hl, hg⟩
theorem Add_any (g W s c : Nat) (l S : List Nat) (w : World) (h : RollAt w g S W l s) (hl : l.length ≤ W) (h1 : 1 ≤ W) (hW : W ≤ 64) (hs : s < 2305843009213693951) (hc : c < 256) (hx : ∀ x ∈ l, x < 256) :
    Calls Try.prog 73 #[.pointer (some ⟨g, 0, none⟩), .int .u8 c] w fun e w' => e = .returned (.int .u64 (stepS W l s c : Nat)) ∧
      ∃ S', RollAt w' g S' W (stepL W l c) (stepS W l s c) ∧ Keeps (g :: S) w w' ∧ ∀ x ∈ S', x ∈ S ∨ w.heap.size ≤ x := by
  obtain ⟨A, cap, hb, hseg, hg⟩ := h.blk
  by_cases he : l.length = W
  · unfold stepS stepL
    rw [if_pos he, if_pos he]
    cases l with
    | nil => simp at he; omega
    | cons o t =>
      simp only [List.headD_cons, List.tail_cons]
      have ho : o < 256 := hx o (by simp)
      rcases hseg.2 with ⟨_, h0, _⟩ | ⟨b, off, cap', cs, hv, hS, hbb, hfit, hn, hm, hcs⟩
      · simp at h0
      · simp only [Value.slice.injEq, true_and] at hv
        obtain ⟨rfl, rfl⟩ := hv
        obtain rfl : t.length + 1 = W := by simpa using he
        by_cases h1c : cap = 1
        · obtain rfl := h1c
          have ht : t = [] := by cases t with
            | nil => rfl
            | cons => simp at hn
          subst ht
          exact Add_full1 g s c o b off [] S w hb hseg hg hs hc ho
        · exact Add_full g s t.length cap c o b off t S w hb hseg hg hW h1c hs hc ho
  · unfold stepS stepL
    rw [if_neg he, if_neg he]
    exact Add_room g W s l.length cap c A l S w hb hseg hg (by omega) hW hs hc

def ofS (l : List Nat) : Nat := l.foldl onS 0
theorem ofS_lt (l : List Nat) : ofS l < 2305843009213693951 := by
  unfold ofS
  have : ∀ (l : List Nat) (s : Nat), s < 2305843009213693951 → l.foldl onS s < 2305843009213693951 := by
    intro l
    induction l with
    | nil => exact fun s h => h
    | cons a t ih => exact fun s _ => ih _ (onS_lt _ _)
  exact this l 0 (by omega)
end Go.Proofs.Ytbjlmhbpcopfbaa

/- Plain laws of rolling sums: of no program's text but the plain functions. -/
namespace Go.Proofs.Ytbjlmhbpcopfbaa

def valS (l : List Nat) : Nat := l.foldl (fun s c => s * 257 + c + 1) 0
theorem onS_mod (s c : Nat) : onS (s % 2305843009213693951) c = (s * 257 + c + 1) % 2305843009213693951 := by
  unfold onS; omega
theorem fold_mod (l : List Nat) : ∀ s, l.foldl onS (s % 2305843009213693951) = l.foldl (fun s c => s * 257 + c + 1) s % 2305843009213693951 := by
  induction l with
  | nil => exact fun s => rfl
  | cons c t ih => intro s; simp only [List.foldl_cons]; rw [onS_mod, ih]
theorem ofS_val (l : List Nat) : ofS l = valS l % 2305843009213693951 := fold_mod l 0
theorem fold_from (l : List Nat) : ∀ s, l.foldl (fun s c => s * 257 + c + 1) s = s * 257 ^ l.length + valS l := by
  induction l with
  | nil => intro s; simp [valS]
  | cons c t ih =>
    intro s
    have h1 := ih (s * 257 + c + 1)
    have h2 := ih (0 * 257 + c + 1)
    simp only [List.foldl_cons, valS] at h1 h2 ⊢
    rw [h1, h2, List.length_cons, Nat.pow_succ]
    have e : s * (257 ^ t.length * 257) = s * 257 * 257 ^ t.length := by rw [Nat.mul_comm (257 ^ t.length), Nat.mul_assoc]
    rw [e, Nat.add_mul, Nat.add_mul, Nat.add_mul, Nat.add_mul]
    omega
theorem valS_cons (c : Nat) (t : List Nat) : valS (c :: t) = (c + 1) * 257 ^ t.length + valS t := by
  have := fold_from t (0 * 257 + c + 1)
  simpa [valS] using this
theorem powS_val : ∀ n, powS n = 257 ^ n % 2305843009213693951
  | 0 => rfl
  | n + 1 => by
    rw [powS, powS_val n, Nat.pow_succ]
    generalize 257 ^ n = x
    omega
theorem without_cons (o : Nat) (t : List Nat) : withoutS (ofS (o :: t)) o (t.length + 1) = ofS t := by
  unfold withoutS
  rw [ofS_val, ofS_val, valS_cons, Nat.add_sub_cancel, powS_val, Nat.mul_mod (o + 1) (257 ^ t.length % 2305843009213693951), Nat.mod_mod, ← Nat.mul_mod]
  generalize (o + 1) * 257 ^ t.length = x
  generalize valS t = v
  omega
theorem ofS_snoc (l : List Nat) (c : Nat) : ofS (l ++ [c]) = onS (ofS l) c := by unfold ofS; rw [List.foldl_append]; rfl
theorem add_mod_inj (x y k : Nat) (hx : x < 2305843009213693951) (hy : y < 2305843009213693951) (h : (x + k) % 2305843009213693951 = (y + k) % 2305843009213693951) : x = y := by omega
theorem onS_inj {s s' c : Nat} (h : s < 2305843009213693951) (h' : s' < 2305843009213693951) (e : onS s c = onS s' c) : s = s' := by
  unfold onS at e
  have e2 : s * 257 % 2305843009213693951 = s' * 257 % 2305843009213693951 := by
    exact add_mod_inj _ _ (c + 1) (Nat.mod_lt _ (by omega)) (Nat.mod_lt _ (by omega)) e
  have inv : ∀ x, x < 2305843009213693951 → x * 257 % 2305843009213693951 * 1327878464449909357 % 2305843009213693951 = x := by
    intro x hx
    rw [Nat.mod_mul_mod, Nat.mul_assoc, show 257 * 1327878464449909357 = 2305843009213693951 * 148 + 1 from rfl, Nat.mul_add, ← Nat.mul_assoc, Nat.mul_comm x, Nat.mul_assoc, Nat.mul_add_mod, Nat.mul_one, Nat.mod_eq_of_lt hx]
  rw [← inv s h, ← inv s' h', e2]
theorem onS_inj' {s c c' : Nat} (h : c < 256) (h' : c' < 256) (e : onS s c = onS s c') : c = c' := by
  unfold onS at e; omega
theorem fold_inj (l : List Nat) : ∀ {s s' : Nat}, s < 2305843009213693951 → s' < 2305843009213693951 → l.foldl onS s = l.foldl onS s' → s = s' := by
  induction l with
  | nil => exact fun _ _ h => h
  | cons c t ih => exact fun h h' e => onS_inj h h' (ih (onS_lt _ _) (onS_lt _ _) e)

/-- One byte unlike: sums unlike. -/
theorem apart (l : List Nat) (k : Nat) (hk : k < l.length) (c : Nat) (hl : l[k] < 256) (hc : c < 256) : ofS l = ofS (l.set k c) ↔ l[k] = c := by
  constructor
  · intro e
    unfold ofS at e
    rw [List.set_eq_take_append_cons_drop, if_pos hk] at e
    have hl2 : l = l.take k ++ l[k] :: l.drop (k + 1) := by rw [List.getElem_cons_drop, List.take_append_drop]
    rw [hl2] at e
    have hs : (List.take k (List.take k l ++ l[k] :: List.drop (k + 1) l)) = l.take k := by rw [← hl2]
    have hd : (List.drop (k + 1) (List.take k l ++ l[k] :: List.drop (k + 1) l)) = l.drop (k + 1) := by rw [← hl2]
    rw [hs, hd, List.foldl_append, List.foldl_append] at e
    simp only [List.foldl_cons] at e
    exact onS_inj' hl hc (fold_inj _ (onS_lt _ _) (onS_lt _ _) e)
  · rintro rfl
    rw [List.set_getElem_self]

/-- The window's list and sum behind n bytes: the last bytes. -/
def lastL (W n : Nat) (b : List Nat) : List Nat := (b.take n).drop (n - W)
theorem stepL_last (W n : Nat) (b : List Nat) (hn : n < b.length) (hW : 1 ≤ W) : stepL W (lastL W n b) b[n] = lastL W (n + 1) b := by
  unfold stepL lastL
  have hlen : ((b.take n).drop (n - W)).length = n - (n - W) := by rw [List.length_drop, List.length_take]; omega
  rw [hlen, List.take_succ_eq_append_getElem hn]
  by_cases h : n - (n - W) = W
  · rw [if_pos h, ← List.drop_one, List.drop_drop, List.drop_append_of_le_length (by rw [List.length_take]; omega)]
    congr 2
    omega
  · rw [if_neg h, List.drop_append_of_le_length (by rw [List.length_take]; omega)]
    congr 2
    omega
theorem stepS_last (W n : Nat) (b : List Nat) (hn : n < b.length) (hW : 1 ≤ W) : stepS W (lastL W n b) (ofS (lastL W n b)) b[n] = ofS (lastL W (n + 1) b) := by
  rw [← stepL_last W n b hn hW]
  unfold stepS stepL
  by_cases h : (lastL W n b).length = W
  · rw [if_pos h, if_pos h, ofS_snoc]
    cases hb : lastL W n b with
    | nil => rw [hb] at h; simp at h; omega
    | cons o t =>
      rw [hb] at h
      obtain rfl : W = t.length + 1 := by simpa using h.symm
      simp only [List.headD_cons, List.tail_cons]
      rw [without_cons]
  · rw [if_neg h, if_neg h, ofS_snoc]
theorem lastL_len (W n : Nat) (b : List Nat) (hn : n ≤ b.length) : (lastL W n b).length = n - (n - W) := by
  unfold lastL; rw [List.length_drop, List.length_take]; omega
end Go.Proofs.Ytbjlmhbpcopfbaa

/- Walks of the reference's windows and of layer 5's laws. -/
namespace Go.Proofs.Ytbjlmhbpcopfbaa
open Go.RowKit

end Go.Proofs.Ytbjlmhbpcopfbaa

/- Walks of layer 5's other laws. -/
namespace Go.Proofs.Ytbjlmhbpcopfbaa
open Go.RowKit

theorem Keeps.belowB {S : List Nat} {B : Nat} {w w' : World} (h : Keeps S w w') (hB : B ≤ w.heap.size) (hS : ∀ x ∈ S, B ≤ x) : Below B w w' :=
  ⟨h.os, h.tape, h.output, h.size, fun k hk => h.block k (by omega) (fun hm => by have := hS k hm; omega)⟩
end Go.Proofs.Ytbjlmhbpcopfbaa

/- Walks of layer 5's RollSays and RollKnown. -/
namespace Go.Proofs.Ytbjlmhbpcopfbaa
open Go.RowKit

end Go.Proofs.Ytbjlmhbpcopfbaa

/- The walk of layer 5's RollKnown; RollSays in one word. -/
namespace Go.Proofs.Ytbjlmhbpcopfbaa
open Go.RowKit

/-- A window that holds the blocks F, all of them made since B. -/
def Win (w : World) (B : Nat) (F : List Nat) (g W : Nat) (l : List Nat) (s : Nat) : Prop := ∃ S, F = g :: S ∧ RollAt w g S W l s ∧ ∀ x ∈ F, B ≤ x
theorem Win.new {w w' : World} {B W : Nat} (hR : RollAt w' w.heap.size [] W [] 0) (hB : B ≤ w.heap.size) : Win w' B [w.heap.size] w.heap.size W [] 0 :=
  ⟨[], rfl, hR, by intro x hx; simp at hx; omega⟩
theorem Win.add {w : World} {B g W s c : Nat} {F l : List Nat} (h : Win w B F g W l s) (hl : l.length ≤ W) (h1 : 1 ≤ W) (hW : W ≤ 64) (hs : s < 2305843009213693951) (hc : c < 256) (hx : ∀ x ∈ l, x < 256) (hB : B ≤ w.heap.size) :
    Calls Try.prog 73 #[.pointer (some ⟨g, 0, none⟩), .int .u8 c] w fun e w' => e = .returned (.int .u64 (stepS W l s c : Nat)) ∧
      ∃ F', Win w' B F' g W (stepL W l c) (stepS W l s c) ∧ Keeps F w w' ∧ (∀ x ∈ F', x ∈ F ∨ w.heap.size ≤ x) ∧ Below B w w' := by
  obtain ⟨S, rfl, hR, hF⟩ := h
  refine (Add_any g W s c l S w hR hl h1 hW hs hc hx).mono ?_
  rintro e w' ⟨rfl, S', hR', hk, hS⟩
  refine ⟨rfl, g :: S', ⟨S', rfl, hR', ?_⟩, hk, ?_, hk.belowB hB hF⟩
  · intro x hx
    rcases List.mem_cons.1 hx with rfl | hx
    · exact hF _ (by simp)
    · rcases hS x hx with h | h
      · exact hF x (by simp [h])
      · omega
  · intro x hx
    rcases List.mem_cons.1 hx with rfl | hx
    · exact .inl (by simp)
    · rcases hS x hx with h | h
      · exact .inl (by simp [h])
      · exact .inr h
end Go.Proofs.Ytbjlmhbpcopfbaa

/- Plain laws of cutting: of no program's text but the plain functions. -/
namespace Go.Proofs.Ytbjlmhbpcopfbaa

def fitS (mask want : Nat) (l : List Nat) : Bool := decide (ofS l &&& mask = want)
/-- The first end behind n, of at most f. -/
def scanS (wd mask want : Nat) (b : List Nat) : Nat → Nat → Nat
  | 0, n => n
  | f + 1, n => if fitS mask want ((b.take (n + 1)).drop (n + 1 - wd)) = true then n + 1 else scanS wd mask want b f (n + 1)
def nextS (mn mx wd mask want : Nat) (b : List Nat) : Nat :=
  if min mx b.length < mn then min mx b.length else scanS wd mask want b (min mx b.length + 1 - mn) (mn - 1)

theorem scanS_bounds (wd mask want : Nat) (b : List Nat) : ∀ f n, n ≤ scanS wd mask want b f n ∧ scanS wd mask want b f n ≤ n + f ∧ (1 ≤ f → n + 1 ≤ scanS wd mask want b f n) := by
  intro f
  induction f with
  | zero => intro n; simp [scanS]
  | succ f ih =>
    intro n
    rw [scanS]
    split
    · omega
    · have := ih (n + 1); omega
theorem nextS_bounds (mn mx wd mask want : Nat) (b : List Nat) (h1 : 1 ≤ mn) (h2 : mn ≤ mx) :
    nextS mn mx wd mask want b ≤ b.length ∧ nextS mn mx wd mask want b ≤ mx ∧ (mn ≤ nextS mn mx wd mask want b ∨ nextS mn mx wd mask want b = b.length) ∧ (b.length = 0 ↔ nextS mn mx wd mask want b = 0) := by
  unfold nextS
  split
  · omega
  · have := scanS_bounds wd mask want b (min mx b.length + 1 - mn) (mn - 1); omega

/-- Pieces' ends from at on; b is what is left. -/
def endsS (f : List Nat → Nat) : Nat → Nat → List Nat → List Nat
  | 0, _, _ => []
  | n + 1, s, b => if b.length = 0 then [] else (s + f b) :: endsS f n (s + f b) (b.drop (f b))
def ends (f : List Nat → Nat) (s : Nat) (b : List Nat) : List Nat := endsS f b.length s b
theorem endsS_fuel (f : List Nat → Nat) (hf : ∀ b : List Nat, b.length ≠ 0 → 1 ≤ f b ∧ f b ≤ b.length) : ∀ (n m s : Nat) (b : List Nat), b.length ≤ n → b.length ≤ m → endsS f n s b = endsS f m s b := by
  intro n
  induction n with
  | zero =>
    intro m s b h _
    cases m with
    | zero => rfl
    | succ m => rw [endsS, endsS, if_pos (by omega)]
  | succ n ih =>
    intro m s b h h'
    cases m with
    | zero => rw [endsS, endsS, if_pos (by omega)]
    | succ m =>
      rw [endsS, endsS]
      split
      · rfl
      · rename_i h0
        have := hf b h0
        rw [ih m _ _ (by rw [List.length_drop]; omega) (by rw [List.length_drop]; omega)]
theorem ends_nil (f : List Nat → Nat) (s : Nat) : ends f s [] = [] := rfl
theorem ends_step (f : List Nat → Nat) (hf : ∀ b : List Nat, b.length ≠ 0 → 1 ≤ f b ∧ f b ≤ b.length) (s : Nat) (b : List Nat) (hb : b.length ≠ 0) : ends f s b = (s + f b) :: ends f (s + f b) (b.drop (f b)) := by
  have := hf b hb
  unfold ends
  obtain ⟨n, hn⟩ : ∃ n, b.length = n + 1 := ⟨b.length - 1, by omega⟩
  rw [hn, endsS, if_neg hb, endsS_fuel f hf n (b.drop (f b)).length _ _ (by rw [List.length_drop]; omega) (Nat.le_refl _)]
theorem ends_ind (f : List Nat → Nat) (hf : ∀ b : List Nat, b.length ≠ 0 → 1 ≤ f b ∧ f b ≤ b.length) (M : Nat → List Nat → List Nat → Prop)
    (h0 : ∀ s, M s [] []) (h1 : ∀ s b, b.length ≠ 0 → M (s + f b) (b.drop (f b)) (ends f (s + f b) (b.drop (f b))) → M s b ((s + f b) :: ends f (s + f b) (b.drop (f b)))) : ∀ (n s : Nat) (b : List Nat), b.length ≤ n → M s b (ends f s b) := by
  intro n
  induction n with
  | zero =>
    intro s b h
    obtain rfl : b = [] := List.eq_nil_of_length_eq_zero (by omega)
    exact h0 s
  | succ n ih =>
    intro s b h
    by_cases hb : b.length = 0
    · obtain rfl : b = [] := List.eq_nil_of_length_eq_zero hb
      exact h0 s
    · have := hf b hb
      rw [ends_step f hf s b hb]
      exact h1 s b hb (ih _ _ (by rw [List.length_drop]; omega))
theorem nextS_f (mn mx wd mask want : Nat) (h1 : 1 ≤ mn) (h2 : mn ≤ mx) : ∀ b : List Nat, b.length ≠ 0 → 1 ≤ nextS mn mx wd mask want b ∧ nextS mn mx wd mask want b ≤ b.length := by
  intro b hb
  have := nextS_bounds mn mx wd mask want b h1 h2
  omega
theorem lastL_zero (W : Nat) (b : List Nat) : lastL W 0 b = [] := by simp [lastL]
theorem window_eq (wd d k : Nat) (b : List Nat) (h : d + wd ≤ k) : lastL wd (k - d) (b.drop d) = (b.take k).drop (k - wd) := by
  unfold lastL
  rw [List.take_drop, List.drop_drop]
  congr 2 <;> omega
theorem scan_hit (wd mask want : Nat) (b : List Nat) (m k : Nat) (h : k < m) (hf : fitS mask want ((b.take (k + 1)).drop (k + 1 - wd)) = true) : scanS wd mask want b (m - k) k = k + 1 := by
  obtain ⟨j, rfl⟩ : ∃ j, m = k + (j + 1) := ⟨m - k - 1, by omega⟩
  rw [Nat.add_sub_cancel_left, scanS, if_pos hf]
theorem scan_miss (wd mask want : Nat) (b : List Nat) (m k : Nat) (h : k < m) (hf : fitS mask want ((b.take (k + 1)).drop (k + 1 - wd)) = false) : scanS wd mask want b (m - k) k = scanS wd mask want b (m - (k + 1)) (k + 1) := by
  obtain ⟨j, rfl⟩ : ∃ j, m = k + (j + 1) := ⟨m - k - 1, by omega⟩
  rw [Nat.add_sub_cancel_left, scanS, if_neg (by simp [hf]), show k + (j + 1) - (k + 1) = j by omega]
end Go.Proofs.Ytbjlmhbpcopfbaa

/- Walks of package cut: Good, Plain, and their twins in the reference. -/
namespace Go.Proofs.Ytbjlmhbpcopfbaa
open Go.RowKit

/-- May a rule be? -/
def goodS (mn mx wd : Int) : Bool := decide (1 ≤ wd ∧ wd ≤ 64 ∧ wd ≤ mn ∧ mn ≤ mx ∧ mx ≤ 65536)
theorem Good_any (mn mx wd : Int) (mask want : Nat) (w : World) :
    Calls Try.prog 56 #[.agg #[.int .i64 mn, .int .i64 mx, .int .i64 wd, .int .u64 mask, .int .u64 want]] w fun e w' => e = .returned (.bool (goodS mn mx wd)) ∧ Below w.heap.size w w' := by
  by_cases h1 : 1 ≤ wd
  · by_cases h2 : wd ≤ 64
    · by_cases h3 : wd ≤ mn
      · by_cases h4 : mn ≤ mx
        · have e : goodS mn mx wd = decide (mx ≤ 65536) := by unfold goodS; simp [h1, h2, h3, h4]
          rw [e]
          go_enter Try.func56, Try.ntmps56
          go_wp2
          go_ret
          exact ⟨rfl, (Below.refl _ _).alloc (Nat.le_refl _) _⟩
        · have e : goodS mn mx wd = false := by unfold goodS; simp [h1, h2, h3, h4]
          rw [e]
          go_enter Try.func56, Try.ntmps56
          go_wp2
          go_ret
          exact ⟨rfl, (Below.refl _ _).alloc (Nat.le_refl _) _⟩
      · have e : goodS mn mx wd = false := by unfold goodS; simp [h1, h2, h3]
        rw [e]
        go_enter Try.func56, Try.ntmps56
        go_wp2
        go_ret
        exact ⟨rfl, (Below.refl _ _).alloc (Nat.le_refl _) _⟩
    · have e : goodS mn mx wd = false := by unfold goodS; simp [h1, h2]
      rw [e]
      go_enter Try.func56, Try.ntmps56
      go_wp2
      go_ret
      exact ⟨rfl, (Below.refl _ _).alloc (Nat.le_refl _) _⟩
  · have e : goodS mn mx wd = false := by unfold goodS; simp [h1]
    rw [e]
    go_enter Try.func56, Try.ntmps56
    go_wp2
    go_ret
    exact ⟨rfl, (Below.refl _ _).alloc (Nat.le_refl _) _⟩

theorem good_nat {mn mx wd : Nat} (hg : goodS mn mx wd = true) : 1 ≤ wd ∧ wd ≤ 64 ∧ wd ≤ mn ∧ mn ≤ mx ∧ mx ≤ 65536 := by unfold goodS at hg; simp at hg; omega
theorem and_u64 (a b : Nat) (ha : a < 18446744073709551616) (hb : b < 18446744073709551616) : bits .and .u64 (a : Int) (b : Int) = ((a &&& b : Nat) : Int) := bits_and_u64_nat a b ha hb

theorem Next_lo (mn mx wd : Nat) (mask want : Nat) (A : Option Addr) (n cap : Nat) (b : List Nat) (w : World) (hg : goodS mn mx wd = true) (hl : b.length = n) (hn : n ≤ maxLen) (h1 : min mx n < mn) :
    Calls Try.prog 57 #[.agg #[.int .i64 mn, .int .i64 mx, .int .i64 wd, .int .u64 mask, .int .u64 want], .slice A n cap] w fun e w' => e = .returned (.int .i64 (nextS mn mx wd mask want b : Nat)) ∧ Below w.heap.size w w' := by
  have hn' := hn; unfold maxLen at hn'
  have e : nextS mn mx wd mask want b = n := by unfold nextS; rw [hl, if_pos h1]; have := good_nat hg; omega
  rw [e]
  obtain ⟨g1, g2, g3, g4, g5⟩ := good_nat hg
  go_enter Try.func57, Try.ntmps57
  go_wp2_with (go_at_call 56; refine (Good_any _ _ _ _ _ _).mono ?_; rintro e w1 ⟨rfl, hb⟩; rw [hg]; have hR := (Blk.new w 65 #[.int .i64 mn, .int .i64 mx, .int .i64 wd, .int .u64 mask, .int .u64 want]).below hb; have hB := ((Below.refl w.heap.size w).alloc (Nat.le_refl _) (.cells #[.int .i64 mn, .int .i64 mx, .int .i64 wd, .int .u64 mask, .int .u64 want] 65)).trans (hb.mono (by simp)); have r0 : w1.cell? ⟨w.heap.size, 0, none⟩ = some (.int .i64 mn) := hR.cell 0; have r1 : w1.cell? ⟨w.heap.size, 1, none⟩ = some (.int .i64 mx) := hR.cell 1)
  go_ret
  exact ⟨rfl, hB⟩

theorem Next_hi (mn mx wd : Nat) (mask want : Nat) (A : Option Addr) (n cap : Nat) (b : List Nat) (w : World) (hg : goodS mn mx wd = true) (hl : b.length = n) (hr : Rd w A (b.map bv)) (hA : A = none → n = 0) (hx : ∀ x ∈ b, x < 256) (hn : n ≤ maxLen)
    (hm : mask < 18446744073709551616) (h1 : ¬ min mx n < mn) :
    Calls Try.prog 57 #[.agg #[.int .i64 mn, .int .i64 mx, .int .i64 wd, .int .u64 mask, .int .u64 want], .slice A n cap] w fun e w' => e = .returned (.int .i64 (nextS mn mx wd mask want b : Nat)) ∧ Below w.heap.size w w' := by
  unfold maxLen at hn
  have HN : Hid (nextS mn mx wd mask want b = scanS wd mask want b (min mx n + 1 - mn) (mn - 1)) := by unfold Hid nextS; rw [hl, if_neg h1]
  generalize nextS mn mx wd mask want b = N at *
  have ⟨g1, g2, g3, g4, g5⟩ := good_nat hg
  rcases Nat.lt_or_ge n mx with hnm | hnm <;> (
    go_enter Try.func57, Try.ntmps57
    go_wp2_with fail
    refine (Good_any _ _ _ _ _ _).mono ?_
    rintro e w1 ⟨rfl, hb⟩
    rw [hg]
    have hR := (Blk.new w 65 #[.int .i64 mn, .int .i64 mx, .int .i64 wd, .int .u64 mask, .int .u64 want]).below hb
    have hB := ((Below.refl w.heap.size w).alloc (Nat.le_refl _) (.cells #[.int .i64 mn, .int .i64 mx, .int .i64 wd, .int .u64 mask, .int .u64 want] 65)).trans (hb.mono (by simp))
    clear hb
    have r0 : w1.cell? ⟨w.heap.size, 0, none⟩ = some (.int .i64 mn) := hR.cell 0
    have r1 : w1.cell? ⟨w.heap.size, 1, none⟩ = some (.int .i64 mx) := hR.cell 1
    have r2 : w1.cell? ⟨w.heap.size, 2, none⟩ = some (.int .i64 wd) := hR.cell 2
    have hRlt := hR.lt
    go_wp2_with fail
    refine (New_any wd _).mono ?_
    rintro e w2 ⟨g, rfl, rfl, hW, hB2⟩
    have hH : holdS (wd : Int) = wd := by unfold holdS; rw [if_neg (by omega), if_neg (by omega)]; omega
    rw [hH] at hW
    have V := Win.new hW (Nat.le_refl _)
    have q0 : w2.cell? ⟨w.heap.size, 0, none⟩ = some (.int .i64 mn) := (hB2.cell hRlt).trans r0
    have q2 : w2.cell? ⟨w.heap.size, 2, none⟩ = some (.int .i64 wd) := (hB2.cell hRlt).trans r2
    clear r0 r1 r2 hW
    go_wp2_with fail
    go_loopw [7] (fun i wr => ∃ (k : Nat) (F : List Nat), mn - wd ≤ k ∧ k ≤ min mx n ∧ i = .int .i64 k ∧ Win wr w1.heap.size F w1.heap.size wd (lastL wd (k - (mn - wd)) (b.drop (mn - wd))) (ofS (lastL wd (k - (mn - wd)) (b.drop (mn - wd)))) ∧ Below w1.heap.size w1 wr ∧ Hid (N = scanS wd mask want b (min mx n - max k (mn - 1)) (max k (mn - 1)))) (fun i _ => min mx n - (intOf i).toNat)
    case atStart =>
      refine ⟨mn - wd, [w1.heap.size], Nat.le_refl _, by omega, by go_num, ?_, hB2, ?_⟩
      · rw [Nat.sub_self, lastL_zero]; exact V
      · rw [show max (mn - wd) (mn - 1) = mn - 1 by omega, show min mx n - (mn - 1) = min mx n + 1 - mn by omega]; exact HN
    case round =>
      clear V q0 q2 HN hB2 w2
      obtain ⟨k, F, hk1, hk2, rfl, V, hB2, HN⟩ := hrel
      have hR2 := hR.keeps (Keeps.of_below (S := []) hB2) (by simp)
      have q0 : wr.cell? ⟨w.heap.size, 0, none⟩ = some (.int .i64 mn) := hR2.cell 0
      by_cases hlt : k < min mx n
      · have hkn : k < b.length := by omega
        have hkd : k - (mn - wd) < (b.drop (mn - wd)).length := by rw [List.length_drop]; omega
        have hz : (b.drop (mn - wd))[k - (mn - wd)] = b[k] := by rw [List.getElem_drop]; congr 1; omega
        have eL := stepL_last wd (k - (mn - wd)) (b.drop (mn - wd)) hkd g1
        have eS := stepS_last wd (k - (mn - wd)) (b.drop (mn - wd)) hkd g1
        rw [hz, show k - (mn - wd) + 1 = k + 1 - (mn - wd) by omega] at eL eS
        have hlen := lastL_len wd (k - (mn - wd)) (b.drop (mn - wd)) (by omega)
        have hlx : ∀ x ∈ lastL wd (k - (mn - wd)) (b.drop (mn - wd)), x < 256 := fun x h => hx x (List.mem_of_mem_drop (List.mem_of_mem_take (List.mem_of_mem_drop h)))
        have hB3 := hB.trans (hB2.mono hB.size)
        obtain ⟨ad, rfl, hc⟩ := (hr.below hB3).at_ (j := k) (by simpa using hkn)
        have hcell : wr.cell? (ad.add k) = some (.int .u8 (b[k] : Nat)) := by rw [hc]; simp [bv]
        have hb : b[k] < 256 := hx _ (List.getElem_mem _)
        have hsx := ofS_lt (lastL wd (k - (mn - wd)) (b.drop (mn - wd)))
        have hlw : (lastL wd (k - (mn - wd)) (b.drop (mn - wd))).length ≤ wd := by omega
        clear hc hz hlen
        generalize lastL wd (k - (mn - wd)) (b.drop (mn - wd)) = L at *
        generalize b[k] = z at *
        generalize ofS L = s0 at *
        have hT := ofS_lt (lastL wd (k + 1 - (mn - wd)) (b.drop (mn - wd)))
        go_wp2_with fail
        refine (V.add (c := z) hlw g1 g2 hsx hb hlx hB2.size).mono ?_
        rintro e w3 ⟨rfl, F', V', -, -, hB4⟩
        rw [eS]
        rw [eL, eS] at V'
        have hB5 := hB2.trans hB4
        have hR3 := hR.keeps (Keeps.of_below (S := []) hB5) (by simp)
        have q0 : w3.cell? ⟨w.heap.size, 0, none⟩ = some (.int .i64 mn) := hR3.cell 0
        have q3 : w3.cell? ⟨w.heap.size, 3, none⟩ = some (.int .u64 mask) := hR3.cell 3
        have q4 : w3.cell? ⟨w.heap.size, 4, none⟩ = some (.int .u64 want) := hR3.cell 4
        clear eL eS hB4 hR3 V hsx hcell hb hlx hlw hR2
        by_cases hmin : mn ≤ k + 1
        · rw [window_eq wd (mn - wd) (k + 1) b (by omega)] at V' hT ⊢
          have HA := and_u64 (ofS ((b.take (k + 1)).drop (k + 1 - wd))) mask (by omega) hm
          by_cases hf : fitS mask want ((b.take (k + 1)).drop (k + 1 - wd)) = true
          · have hN : N = k + 1 := by
              rw [HN.out, show max k (mn - 1) = k by omega]; exact scan_hit wd mask want b (min mx n) k hlt hf
            have hq : (bits .and .u64 (ofS ((b.take (k + 1)).drop (k + 1 - wd)) : Nat) (mask : Int) == (want : Int)) = true := by
              rw [HA]; unfold fitS at hf; simp only [decide_eq_true_eq] at hf; rw [hf]; simp
            generalize ofS ((b.take (k + 1)).drop (k + 1 - wd)) = T at *
            clear HA
            go_wp2_with fail
            go_ret
            exact ⟨ret_int (by omega), hB.trans (hB5.mono hB.size)⟩
          · have hf' : fitS mask want ((b.take (k + 1)).drop (k + 1 - wd)) = false := by simpa using hf
            have hN : N = scanS wd mask want b (min mx n - (k + 1)) (k + 1) := by
              rw [HN.out, show max k (mn - 1) = k by omega]; exact scan_miss wd mask want b (min mx n) k hlt hf'
            have HN2 := Lib.hid hN
            have hq : (bits .and .u64 (ofS ((b.take (k + 1)).drop (k + 1 - wd)) : Nat) (mask : Int) == (want : Int)) = false := by
              rw [HA]; unfold fitS at hf'; simp only [decide_eq_false_iff_not] at hf'; simp only [beq_eq_false_iff_ne, ne_eq]; omega
            clear HA hN hf
            generalize HL : (b.take (k + 1)).drop (k + 1 - wd) = L2 at *
            generalize HT2 : ofS L2 = T at *
            go_wp2_with fail
            go_roundw
            case rel =>
              refine ⟨k + 1, F', by omega, by omega, by go_num, ?_, hB5, ?_⟩
              · rw [window_eq wd (mn - wd) (k + 1) b (by omega), HL, HT2]; exact V'
              · rw [show max (k + 1) (mn - 1) = k + 1 by omega]; exact HN2
            case measure => simp [intOf]; omega
        · generalize HL : lastL wd (k + 1 - (mn - wd)) (b.drop (mn - wd)) = L2 at *
          generalize HT2 : ofS L2 = T at *
          go_wp2_with fail
          go_roundw
          case rel =>
            refine ⟨k + 1, F', by omega, by omega, by go_num, ?_, hB5, ?_⟩
            · rw [HL, HT2]; exact V'
            · rw [show max (k + 1) (mn - 1) = max k (mn - 1) by omega]; exact HN
          case measure => simp [intOf]; omega
      · obtain rfl : k = min mx n := by omega
        have hN : N = min mx n := by
          rw [HN.out, show max (min mx n) (mn - 1) = min mx n by omega, Nat.sub_self]; rfl
        clear V hR2
        go_wp2
        go_ret
        exact ⟨ret_int (by omega), hB.trans (hB2.mono hB.size)⟩)

theorem Next_go (mn mx wd : Nat) (mask want : Nat) (A : Option Addr) (n cap : Nat) (b : List Nat) (w : World) (hg : goodS mn mx wd = true) (hl : b.length = n) (hr : Rd w A (b.map bv)) (hA : A = none → n = 0) (hx : ∀ x ∈ b, x < 256) (hn : n ≤ maxLen)
    (hm : mask < 18446744073709551616) :
    Calls Try.prog 57 #[.agg #[.int .i64 mn, .int .i64 mx, .int .i64 wd, .int .u64 mask, .int .u64 want], .slice A n cap] w fun e w' => e = .returned (.int .i64 (nextS mn mx wd mask want b : Nat)) ∧ Below w.heap.size w w' := by
  by_cases h1 : min mx n < mn
  · exact Next_lo mn mx wd mask want A n cap b w hg hl hn h1
  · exact Next_hi mn mx wd mask want A n cap b w hg hl hr hA hx hn hm h1

/-- Where the first piece ends, of any rule. -/
def nextR (mn mx wd : Int) (mask want : Nat) (b : List Nat) : Nat := if goodS mn mx wd = true then nextS mn.toNat mx.toNat wd.toNat mask want b else 0
theorem good_cast {mn mx wd : Int} (hg : goodS mn mx wd = true) : ∃ a b c : Nat, mn = a ∧ mx = b ∧ wd = c := by
  unfold goodS at hg
  simp only [decide_eq_true_eq] at hg
  exact ⟨mn.toNat, mx.toNat, wd.toNat, by omega, by omega, by omega⟩

theorem Next_any (mn mx wd : Int) (mask want : Nat) (A : Option Addr) (n cap : Nat) (b : List Nat) (w : World) (hl : b.length = n) (hr : Rd w A (b.map bv)) (hA : A = none → n = 0) (hx : ∀ x ∈ b, x < 256) (hn : n ≤ maxLen)
    (hm : mask < 18446744073709551616) :
    Calls Try.prog 57 #[.agg #[.int .i64 mn, .int .i64 mx, .int .i64 wd, .int .u64 mask, .int .u64 want], .slice A n cap] w fun e w' => e = .returned (.int .i64 (nextR mn mx wd mask want b : Nat)) ∧ Below w.heap.size w w' := by
  by_cases hg : goodS mn mx wd = true
  · obtain ⟨mn, mx, wd, rfl, rfl, rfl⟩ := good_cast hg
    unfold nextR
    rw [if_pos hg]
    exact Next_go mn mx wd mask want A n cap b w hg hl hr hA hx hn hm
  · unfold nextR
    rw [if_neg hg]
    have hg' : goodS mn mx wd = false := by simpa using hg
    unfold maxLen at hn
    go_enter Try.func57, Try.ntmps57
    go_wp2_with (go_at_call 56; refine (Good_any _ _ _ _ _ _).mono ?_; rintro e w1 ⟨rfl, hb⟩; rw [hg'])
    go_ret
    exact ⟨rfl, ((Below.refl _ _).alloc (Nat.le_refl _) (.cells #[.int .i64 mn, .int .i64 mx, .int .i64 wd, .int .u64 mask, .int .u64 want] 65)).trans (hb.mono (by simp))⟩
end Go.Proofs.Ytbjlmhbpcopfbaa

/- Walks of package cut: Ends. -/
namespace Go.Proofs.Ytbjlmhbpcopfbaa
open Go.RowKit

def iv (n : Nat) : Value := .int .i64 (n : Int)
theorem info_int : (Try.prog.info? 3).map (fun i => (i.zero, i.size, i.bytes)) = some (some (.int .i64 0), 1, 8) := by kernel_rfl

/-- Where all pieces end, of any rule. -/
def endsR (mn mx wd : Int) (mask want : Nat) (b : List Nat) : List Nat := if goodS mn mx wd = true then ends (nextR mn mx wd mask want) 0 b else []

theorem nextR_f {mn mx wd : Int} (mask want : Nat) (hg : goodS mn mx wd = true) : ∀ b : List Nat, b.length ≠ 0 → 1 ≤ nextR mn mx wd mask want b ∧ nextR mn mx wd mask want b ≤ b.length := by
  obtain ⟨mn, mx, wd, rfl, rfl, rfl⟩ := good_cast hg
  obtain ⟨g1, g2, g3, g4, g5⟩ := good_nat hg
  intro b hb
  unfold nextR
  rw [if_pos hg]
  exact nextS_f mn mx wd mask want (by omega) g4 b hb

theorem Ends_go (mn mx wd : Int) (mask want : Nat) (A : Option Addr) (n cap : Nat) (b : List Nat) (w : World) (hg : goodS mn mx wd = true) (hl : b.length = n) (hmc : n ≤ cap) (hr : Rd w A (b.map bv)) (hA : A = none → n = 0) (hx : ∀ x ∈ b, x < 256) (hn : n ≤ 4000)
    (hm : mask < 18446744073709551616) :
    Calls Try.prog 43 #[.agg #[.int .i64 mn, .int .i64 mx, .int .i64 wd, .int .u64 mask, .int .u64 want], .slice A n cap] w fun e w' => ∃ v S, e = .returned v ∧ Seg w' 3 1 v (endsR mn mx wd mask want b).length ((endsR mn mx wd mask want b).map iv) S ∧ (∀ x ∈ S, w.heap.size ≤ x) ∧ Below w.heap.size w w' := by
  have hE : endsR mn mx wd mask want b = ends (nextR mn mx wd mask want) 0 b := by unfold endsR; rw [if_pos hg]
  rw [hE]
  have hnx := nextR_f mask want hg
  go_enter Try.func43, Try.ntmps43
  go_wp2_with fail
  refine (Good_any _ _ _ _ _ _).mono ?_
  rintro e w1 ⟨rfl, hb⟩
  rw [hg]
  have hR := (Blk.new w 65 #[.int .i64 mn, .int .i64 mx, .int .i64 wd, .int .u64 mask, .int .u64 want]).below hb
  have hB := ((Below.refl w.heap.size w).alloc (Nat.le_refl _) (.cells #[.int .i64 mn, .int .i64 mx, .int .i64 wd, .int .u64 mask, .int .u64 want] 65)).trans (hb.mono (by simp))
  clear hb
  have hRlt := hR.lt
  go_wp2_with fail
  go_loopw [5, 6] (fun o i wr => ∃ (k : Nat) (l : List Nat) (S : List Nat), k ≤ n ∧ l.length ≤ k ∧ i = .int .i64 k ∧ Seg wr 3 1 o l.length (l.map iv) S ∧ (∀ x ∈ S, w1.heap.size ≤ x) ∧ Below w1.heap.size w1 wr ∧ ends (nextR mn mx wd mask want) 0 b = l ++ ends (nextR mn mx wd mask want) k (b.drop k)) (fun _ i _ => n - (intOf i).toNat)
  case atStart => exact ⟨0, [], [], Nat.zero_le _, Nat.le_refl _, rfl, Seg.nil _ _ _, by simp, Below.refl _ _, rfl⟩
  case round =>
    obtain ⟨k, l, S, hk, hlk, rfl, hO, hS, hB2, hEk⟩ := hrel
    obtain ⟨oA, oC, rfl, hOf⟩ := hO.form
    have HE := Lib.hid hEk
    clear hEk
    by_cases hlt : k < n
    · have hR2 := hR.keeps (Keeps.of_below (S := []) hB2) (by simp)
      have q0 : wr.cell? ⟨w.heap.size, 0, none⟩ = some (.int .i64 mn) := hR2.cell 0
      have q1 : wr.cell? ⟨w.heap.size, 1, none⟩ = some (.int .i64 mx) := hR2.cell 1
      have q2 : wr.cell? ⟨w.heap.size, 2, none⟩ = some (.int .i64 wd) := hR2.cell 2
      have q3 : wr.cell? ⟨w.heap.size, 3, none⟩ = some (.int .u64 mask) := hR2.cell 3
      have q4 : wr.cell? ⟨w.heap.size, 4, none⟩ = some (.int .u64 want) := hR2.cell 4
      have hdl : (b.drop k).length = n - k := by rw [List.length_drop]; omega
      have hf := hnx (b.drop k) (by omega)
      have hB3 := hB.trans (hB2.mono hB.size)
      have hr2 := (hr.below hB3).dropAt k
      rw [← List.map_drop] at hr2
      have hx2 : ∀ x ∈ b.drop k, x < 256 := fun x h => hx x (List.mem_of_mem_drop h)
      obtain ⟨ad, rfl⟩ : ∃ ad, A = some ad := by
        cases A with
        | none => exact absurd (hA rfl) (by omega)
        | some ad => exact ⟨ad, rfl⟩
      have hcl : cap ≠ k := by omega
      have hst := Lib.hid (ends_step (nextR mn mx wd mask want) hnx k (b.drop k) (by omega))
      have hdd : (b.drop k).drop (nextR mn mx wd mask want (b.drop k)) = b.drop (k + nextR mn mx wd mask want (b.drop k)) := by rw [List.drop_drop]
      have hNx := fun (w0 : World) (h0 : Rd w0 (some (ad.add k)) ((b.drop k).map bv)) => Next_any mn mx wd mask want (some (ad.add k)) (n - k) (cap - k) (b.drop k) w0 hdl h0 (by simp) hx2 (by simp only [maxLen]; omega) hm
      rw [hdd] at hst
      clear hdd
      generalize hfx : nextR mn mx wd mask want (b.drop k) = f at *
      have hwp : IntKind.i64.wrap ((k : Int) + (f : Int)) = ((k + f : Nat) : Int) := by simp [IntKind.wrap, IntKind.bits, IntKind.signed]; omega
      go_wp2_with fail
      go_region_held3 (fun w' => w'.cell? ⟨w.heap.size, 0, none⟩ = some (.int .i64 mn) ∧ w'.cell? ⟨w.heap.size, 1, none⟩ = some (.int .i64 mx) ∧ w'.cell? ⟨w.heap.size, 2, none⟩ = some (.int .i64 wd) ∧ w'.cell? ⟨w.heap.size, 3, none⟩ = some (.int .u64 mask) ∧ w'.cell? ⟨w.heap.size, 4, none⟩ = some (.int .u64 want)) (first | assumption | go_keep)
        (first
          | (go_at_call 57
             refine (hNx _ hr2.drew).mono ?_
             rintro e w2 ⟨rfl, hB4⟩
             have hB5 : Below w1.heap.size w1 w2 := hB2.drew.trans (hB4.mono hB2.size)
             have hR3 := hR.keeps (Keeps.of_below (S := []) hB5) (by simp)
             have p0 : w2.cell? ⟨w.heap.size, 0, none⟩ = some (.int .i64 mn) := hR3.cell 0
             have p1 : w2.cell? ⟨w.heap.size, 1, none⟩ = some (.int .i64 mx) := hR3.cell 1
             have p2 : w2.cell? ⟨w.heap.size, 2, none⟩ = some (.int .i64 wd) := hR3.cell 2
             have p3 : w2.cell? ⟨w.heap.size, 3, none⟩ = some (.int .u64 mask) := hR3.cell 3
             have p4 : w2.cell? ⟨w.heap.size, 4, none⟩ = some (.int .u64 want) := hR3.cell 4))
      have hO2 := (hO.drew).below hB4
      clear p0 p1 p2 p3 p4 q0 q1 q2 q3 q4
      go_wp2_with (at_builtin; refine wpList_append_seg _ rfl (.tmp 21) (.tmp 23) 31 rfl 3 (.int .i64 0) 1 8 Try.underlying31 info_int rfl (.slice oA l.length oC) l.length (l.map iv) S rfl (hO2.alloc _) (some ⟨w2.heap.size, 0, none⟩) 1 1 [iv (k + f)] rfl rfl (Rd.of_blk0 (Blk.new _ _ #[iv (k + f)])) (by simp) (by simp [iv, Value.oneCell']) (by simp only [maxLen]; omega) (by omega) ?_)
      intro v' w3 S' hseg hK hSS
      have hB6 : Below w1.heap.size w1 w3 := by
        have h1 : Keeps [] w1 w2 := Keeps.of_below hB5
        exact ((h1.alloc (.cells #[iv (k + f)] 3)).trans' hK (fun x hx => .inr (hS x hx))).below
      have hS' : ∀ x ∈ S', w1.heap.size ≤ x := by
        rcases hSS with rfl | rfl
        · exact hS
        · have := hB5.size; intro x hx; simp at hx; omega
      obtain ⟨A', C', rfl, _⟩ := hseg.form
      go_wp2_with fail
      go_roundw
      case rel =>
        refine ⟨k + f, l ++ [k + f], S', by omega, by simp; omega, by go_num, ?_, hS', hB6, ?_⟩
        · rw [List.length_append, List.map_append]; exact hseg
        · rw [HE.out, hst.out]; simp
      case measure => simp [intOf]; omega
    · obtain rfl : k = n := by omega
      rw [List.drop_of_length_le (by omega), ends_nil, List.append_nil] at HE
      go_wp2_with fail
      go_ret
      refine ⟨_, S, rfl, ?_, ?_, hB.trans (hB2.mono hB.size)⟩
      · rw [HE.out]; exact hO
      · intro x hx; have := hS x hx; omega

theorem Ends_any (mn mx wd : Int) (mask want : Nat) (A : Option Addr) (n cap : Nat) (b : List Nat) (w : World) (hl : b.length = n) (hmc : n ≤ cap) (hr : Rd w A (b.map bv)) (hA : A = none → n = 0) (hx : ∀ x ∈ b, x < 256) (hn : n ≤ 4000)
    (hm : mask < 18446744073709551616) :
    Calls Try.prog 43 #[.agg #[.int .i64 mn, .int .i64 mx, .int .i64 wd, .int .u64 mask, .int .u64 want], .slice A n cap] w fun e w' => ∃ v S, e = .returned v ∧ Seg w' 3 1 v (endsR mn mx wd mask want b).length ((endsR mn mx wd mask want b).map iv) S ∧ (∀ x ∈ S, w.heap.size ≤ x) ∧ Below w.heap.size w w' := by
  by_cases hg : goodS mn mx wd = true
  · exact Ends_go mn mx wd mask want A n cap b w hg hl hmc hr hA hx hn hm
  · have hE : endsR mn mx wd mask want b = [] := by unfold endsR; rw [if_neg hg]
    have hg' : goodS mn mx wd = false := by simpa using hg
    rw [hE]
    go_enter Try.func43, Try.ntmps43
    go_wp2_with (go_at_call 56; refine (Good_any _ _ _ _ _ _).mono ?_; rintro e w1 ⟨rfl, hb⟩; rw [hg'])
    go_ret
    exact ⟨_, [], rfl, Seg.nil _ _ _, by simp, ((Below.refl _ _).alloc (Nat.le_refl _) (.cells #[.int .i64 mn, .int .i64 mx, .int .i64 wd, .int .u64 mask, .int .u64 want] 65)).trans (hb.mono (by simp))⟩

theorem Clone_any (ad : Addr) (n cap : Nat) (l : List Nat) (w : World) (hl : l.length = n) (hr : Rd w (some ad) (l.map bv)) (hn : n ≤ 4000) :
    Calls Try.prog 44 #[.slice (some ad) n cap] w fun e w' => ∃ v S, e = .returned v ∧ Seg w' 5 1 v n (l.map bv) S ∧ (∀ x ∈ S, w.heap.size ≤ x) ∧ Below w.heap.size w w' := by
  have hnil : ∀ W, (binOp .eql 22 (.slice (some ad) n cap) (.slice none 0 0)).run Try.prog W = .ok (.bool false) W := fun W => Lib.run_eql_slice_some_nil W _ _ _ Try.underlying22
  go_enter Try.func44, Try.ntmps44
  go_wp2_with (at_builtin; refine wpList_append_seg _ rfl (.tmp 5) (.tmp 6) 22 rfl 5 (.int .u8 0) 1 1 Try.underlying22 info_u8r rfl (.slice (some ⟨w.heap.size, 0, none⟩) 0 0) 0 [] [w.heap.size] rfl (Seg.ofBlk (cap := 0) (Blk.new w _ #[]) rfl (by simp [maxLen])) (some ad) n cap (l.map bv) rfl (by simp [hl]) (hr.alloc _) (by simp) (by simp [bv, Value.oneCell']) (by simp only [maxLen]; omega) (by omega) ?_)
  intro v' w2 S' hseg hK hSS
  obtain ⟨A', C', rfl, _⟩ := hseg.form
  go_wp2_with fail
  go_ret
  refine ⟨_, S', rfl, hseg, ?_, ((((Keeps.refl [] w).alloc (.cells #[] 5)).trans' hK (fun x hx => .inr (by simp at hx; omega)))).below⟩
  rcases hSS with rfl | rfl
  · simp
  · intro x hx; simp at hx; omega
end Go.Proofs.Ytbjlmhbpcopfbaa

/- Walks of package cut: Parts. -/
namespace Go.Proofs.Ytbjlmhbpcopfbaa
open Go.RowKit

/-- Piece i, of the ends E. -/
def pieceS (b E : List Nat) (i : Nat) : List Nat := (b.take (E.getD i 0)).drop ((0 :: E).getD i 0)
def partsS (b E : List Nat) : List (List Nat) := (List.range E.length).map (pieceS b E)

theorem ends_bounds (f : List Nat → Nat) (hf : ∀ b : List Nat, b.length ≠ 0 → 1 ≤ f b ∧ f b ≤ b.length) : ∀ (n s : Nat) (b : List Nat), b.length ≤ n → ∀ i, i < (ends f s b).length → (s :: ends f s b).getD i 0 < (ends f s b).getD i 0 ∧ (ends f s b).getD i 0 ≤ s + b.length := by
  intro n s b h
  refine ends_ind f hf (fun s b E => ∀ i, i < E.length → (s :: E).getD i 0 < E.getD i 0 ∧ E.getD i 0 ≤ s + b.length) ?_ ?_ n s b h
  · intro s i hi; simp at hi
  · intro s b hb ih i hi
    have hfb := hf b hb
    cases i with
    | zero => simp; omega
    | succ i =>
      have := ih i (by simpa using hi)
      rw [List.length_drop] at this
      simp only [List.getD_cons_succ]
      omega
theorem endsR_bounds (mn mx wd : Int) (mask want : Nat) (b : List Nat) : ∀ i, i < (endsR mn mx wd mask want b).length → (0 :: endsR mn mx wd mask want b).getD i 0 < (endsR mn mx wd mask want b).getD i 0 ∧ (endsR mn mx wd mask want b).getD i 0 ≤ b.length := by
  intro i hi
  unfold endsR at hi ⊢
  split at hi
  · rename_i hg
    rw [if_pos hg]
    have := ends_bounds _ (nextR_f mask want hg) b.length 0 b (Nat.le_refl _) i hi
    omega
  · simp at hi

theorem ends_index {E : List Nat} {n : Nat} (h : ∀ i, i < E.length → (0 :: E).getD i 0 < E.getD i 0 ∧ E.getD i 0 ≤ n) : ∀ i, i ≤ E.length → i ≤ (0 :: E).getD i 0 := by
  intro i
  induction i with
  | zero => simp
  | succ i ih =>
    intro hi
    have h1 := ih (by omega)
    have h2 := h i (by omega)
    rw [List.getD_cons_succ]
    omega
theorem info_bytes : (Try.prog.info? 22).map (fun i => (i.zero, i.size, i.bytes)) = some (some (.slice none 0 0), 1, 24) := by kernel_rfl
/-- Slices that read lists of bytes; none lies in a block of S. -/
def Pcs (w : World) (S : List Nat) (vs : List Value) (ps : List (List Nat)) : Prop :=
  vs.length = ps.length ∧ ∀ (i : Nat) (p : List Nat), ps[i]? = some p → ∃ (A : Option Addr) (c : Nat), vs[i]? = some (Value.slice A p.length c) ∧ p.length ≤ c ∧ c ≤ maxLen ∧ Rd w A (p.map bv) ∧ (∀ ad, A = some ad → ad.block ∉ S ∧ ad.block < w.heap.size) ∧ (A = none → p.length = 0)
theorem Pcs.keeps {w w' : World} {S S' S2 : List Nat} {vs : List Value} {ps : List (List Nat)} (h : Pcs w S vs ps) (k : Keeps S2 w w') (h2 : ∀ x ∈ S2, x ∈ S ∨ w.heap.size ≤ x) (hS : ∀ x ∈ S', x ∈ S ∨ w.heap.size ≤ x) : Pcs w' S' vs ps := by
  refine ⟨h.1, fun i p hp => ?_⟩
  obtain ⟨A, c, h3, h4, h5, h6, h7, h8⟩ := h.2 i p hp
  refine ⟨A, c, h3, h4, h5, h6.keeps k ?_, ?_, h8⟩
  · intro ad e hm
    have := h7 ad e
    rcases h2 _ hm with h9 | h9
    · exact this.1 h9
    · omega
  · intro ad e
    have := h7 ad e
    refine ⟨fun hm => ?_, Nat.lt_of_lt_of_le this.2 k.size⟩
    rcases hS _ hm with h9 | h9
    · exact this.1 h9
    · omega

theorem Pcs.nil (w : World) (S : List Nat) : Pcs w S [] [] := ⟨rfl, by simp⟩
theorem Pcs.snoc {w : World} {S : List Nat} {vs : List Value} {ps : List (List Nat)} (h : Pcs w S vs ps) {A : Option Addr} {c : Nat} {p : List Nat} (h4 : p.length ≤ c) (h5 : c ≤ maxLen) (h6 : Rd w A (p.map bv)) (h7 : ∀ ad, A = some ad → ad.block ∉ S ∧ ad.block < w.heap.size) (h8 : A = none → p.length = 0) : Pcs w S (vs ++ [.slice A p.length c]) (ps ++ [p]) := by
  refine ⟨by simp [h.1], fun i q hq => ?_⟩
  rw [List.getElem?_append] at hq ⊢
  by_cases hi : i < ps.length
  · rw [if_pos hi] at hq
    rw [if_pos (by rw [h.1]; exact hi)]
    exact h.2 i q hq
  · rw [if_neg hi] at hq
    rw [if_neg (by rw [h.1]; exact hi), h.1]
    have hi0 : i - ps.length = 0 := by
      have := (List.getElem?_eq_some_iff.1 hq).1
      simpa using this
    rw [hi0] at hq ⊢
    simp only [List.getElem?_cons_zero, Option.some.injEq] at hq
    subst hq
    exact ⟨A, c, by simp, h4, h5, h6, h7, h8⟩

theorem Parts_any (mn mx wd : Int) (mask want : Nat) (A : Option Addr) (n cap : Nat) (b : List Nat) (w : World) (hl : b.length = n) (hmc : n ≤ cap) (hr : Rd w A (b.map bv)) (hA : A = none → n = 0) (hx : ∀ x ∈ b, x < 256) (hn : n ≤ 4000)
    (hm : mask < 18446744073709551616) :
    Calls Try.prog 26 #[.agg #[.int .i64 mn, .int .i64 mx, .int .i64 wd, .int .u64 mask, .int .u64 want], .slice A n cap] w fun e w' => ∃ v S vs, e = .returned v ∧ Seg w' 22 1 v (endsR mn mx wd mask want b).length vs S ∧ Pcs w' S vs (partsS b (endsR mn mx wd mask want b)) ∧ (∀ x ∈ S, w.heap.size ≤ x) ∧ Below w.heap.size w w' := by
  have hbd := endsR_bounds mn mx wd mask want b
  generalize hEE : endsR mn mx wd mask want b = E at *
  go_enter Try.func26, Try.ntmps26
  go_wp2_with fail
  refine (Ends_any _ _ _ _ _ _ _ _ b _ hl hmc (hr.alloc _) hA hx hn hm).mono ?_
  rintro e w1 ⟨v, S, rfl, hE, hS, hB⟩
  rw [hEE] at hE
  obtain ⟨eA, eC, rfl, he1, he2, heR, heB, _⟩ := hE.form
  have hB1 := ((Below.refl w.heap.size w).alloc (Nat.le_refl _) (.cells #[.int .i64 mn, .int .i64 mx, .int .i64 wd, .int .u64 mask, .int .u64 want] 65)).trans (hB.mono (by simp))
  have hS1 : ∀ x ∈ S, w.heap.size ≤ x := by intro x hx; have := hS x hx; simp at this; omega
  clear hS hB
  have hix := ends_index hbd
  go_wp2_with fail
  go_loopw [5, 6, 13] (fun o f j wr => ∃ (i : Nat) (S2 : List Nat) (vs : List Value), i ≤ E.length ∧ j = .int .i64 i ∧ f = .int .i64 ((0 :: E).getD i 0 : Nat) ∧ Seg wr 22 1 o i vs S2 ∧ Pcs wr S2 vs ((List.range i).map (pieceS b E)) ∧ (∀ x ∈ S2, w1.heap.size ≤ x) ∧ Below w1.heap.size w1 wr) (fun _ _ j _ => E.length - (intOf j).toNat)
  case atStart => exact ⟨0, [], [], Nat.zero_le _, rfl, rfl, Seg.nil _ _ _, Pcs.nil _ _, by simp, Below.refl _ _⟩
  case round =>
    obtain ⟨i, S2, vs, hi, rfl, rfl, hO, hP, hS2, hB2⟩ := hrel
    obtain ⟨oA, oC, rfl, hOf⟩ := hO.form
    by_cases hlt : i < E.length
    · obtain ⟨h1, h2⟩ := hbd i hlt
      have h3 := hix i hi
      have hB3 := hB1.trans (hB2.mono hB1.size)
      obtain ⟨ea, rfl, hc⟩ := (heR.below hB2).at_ (j := i) (by simpa using hlt)
      have hcell : wr.cell? (ea.add i) = some (.int .i64 (E.getD i 0 : Nat)) := by rw [hc]; simp [iv, List.getD, List.getElem?_eq_getElem hlt]
      obtain ⟨ad, rfl⟩ : ∃ ad, A = some ad := by
        cases A with
        | none => exact absurd (hA rfl) (by omega)
        | some ad => exact ⟨ad, rfl⟩
      have hpl : (pieceS b E i).length = E.getD i 0 - (0 :: E).getD i 0 := by unfold pieceS; rw [List.length_drop, List.length_take]; omega
      have hr2 : Rd wr (some (ad.add ((0 :: E).getD i 0))) ((pieceS b E i).map bv) := by
        have := (((hr.below hB3).take (E.getD i 0)).dropAt ((0 :: E).getD i 0))
        rw [← List.map_take, ← List.map_drop] at this
        exact this
      have hnext : (0 :: E).getD (i + 1) 0 = E.getD i 0 := List.getD_cons_succ
      generalize (0 :: E).getD i 0 = x at *
      generalize E.getD i 0 = y at *
      generalize HPI : pieceS b E i = p at *
      clear hc
      go_wp2_with fail
      refine (Clone_any (ad.add x) (y - x) (cap - x) p wr hpl hr2 (by omega)).mono ?_
      rintro e w2 ⟨v, S3, rfl, hC, hS3, hB4⟩
      obtain ⟨cA, cC, rfl, hc1, hc2, hc3, hc4, hc5⟩ := hC.form
      have hO2 := hO.below hB4
      have hlt3 := hC.lt
      have hlt2 := hO.lt
      have hsz := hB2.size
      have hPn : Pcs w2 S2 (vs ++ [.slice cA p.length cC]) ((List.range i).map (pieceS b E) ++ [p]) := by
        refine (hP.keeps (S' := S2) (Keeps.of_below (S := []) hB4) (by simp) (fun x hx => .inl hx)).snoc (by omega) hc2 hc3 ?_ ?_
        · intro ad e
          have := hc4 ad e
          refine ⟨fun hm => ?_, hlt3 _ this⟩
          have := hS3 _ this
          have := hlt2 _ hm
          omega
        · intro e
          have := hc5 e
          omega
      rw [hpl] at hPn
      go_wp2_with (at_builtin; refine wpList_append_seg _ rfl (.tmp 17) (.tmp 23) 57 rfl 22 (.slice none 0 0) 1 24 Try.underlying57 info_bytes rfl (.slice oA i oC) i vs S2 rfl (hO2.alloc _) (some ⟨w2.heap.size, 0, none⟩) 1 1 [.slice cA (y - x) cC] rfl rfl (Rd.of_blk0 (Blk.new _ _ #[.slice cA (y - x) cC])) (by simp) (by simp [Value.oneCell']) (by simp only [maxLen]; omega) (by omega) ?_)
      intro v' w3 S' hseg hK hSS
      have hKp : Keeps S2 w2 w3 := ((Keeps.refl S2 w2).alloc (.cells #[.slice cA (y - x) cC] 22)).trans hK
      have hPf := hPn.keeps (S' := S') hKp (fun x hx => .inl hx) (by
        rcases hSS with rfl | rfl
        · exact fun x hx => .inl hx
        · intro x hx; simp at hx; omega)
      have hB6 : Below w1.heap.size w1 w3 := by
        have h1 : Keeps S2 w1 w2 := Keeps.of_below (hB2.trans (hB4.mono hB2.size))
        exact (h1.trans hKp).belowB (Nat.le_refl _) hS2
      have hsz2 := hB4.size
      have hS' : ∀ x ∈ S', w1.heap.size ≤ x := by
        rcases hSS with rfl | rfl
        · exact hS2
        · intro x hx; simp at hx; omega
      obtain ⟨A', C', rfl, _⟩ := hseg.form
      go_wp2_with fail
      go_roundw
      case rel =>
        refine ⟨i + 1, S', _, by omega, by go_num, by rw [hnext], hseg, ?_, hS', hB6⟩
        rw [List.range_succ, List.map_append, List.map_singleton, HPI]
        exact hPf
      case measure => simp [intOf]; omega
    · obtain rfl : i = E.length := by omega
      go_wp2_with fail
      go_ret
      refine ⟨_, S2, vs, rfl, hO, hP, ?_, hB1.trans (hB2.mono hB1.size)⟩
      intro x hx
      have := hS2 x hx
      have := hB1.size
      omega
end Go.Proofs.Ytbjlmhbpcopfbaa

/- Walks of the reference's cutting, and of layer 6's helpers. -/
namespace Go.Proofs.Ytbjlmhbpcopfbaa
open Go.RowKit

theorem cutPlain_any (w : World) :
    Calls Try.prog 27 #[] w fun e w' => e = .returned (.agg #[.int .i64 16, .int .i64 128, .int .i64 8, .int .u64 31, .int .u64 7]) ∧ Below w.heap.size w w' := by
  go_enter Try.func27, Try.ntmps27
  go_wp2
  go_returns
  exact ⟨rfl, (Below.refl _ _).alloc (Nat.le_refl _) _⟩
end Go.Proofs.Ytbjlmhbpcopfbaa

/- Words for memory: whole arrays and structs loaded from and stored into a block that is known whole; a function's result that lies in such a block. -/
namespace Go.Proofs.Ytbjlmhbpcopfbaa
open Go.RowKit

/-- cs with vs written over it from o on. -/
def splice (cs : Array Value) : Nat → List Value → Array Value
  | _, [] => cs
  | o, v :: vs => splice (cs.setIfInBounds o v) (o + 1) vs
theorem splice_size (vs : List Value) : ∀ (cs : Array Value) (o : Nat), (splice cs o vs).size = cs.size := by
  induction vs with
  | nil => intro cs o; rfl
  | cons v vs ih => intro cs o; rw [splice, ih]; simp
theorem splice_get (vs : List Value) : ∀ (cs : Array Value) (o j : Nat), o + vs.length ≤ cs.size → (splice cs o vs)[j]? = if o ≤ j ∧ j < o + vs.length then vs[j - o]? else cs[j]? := by
  induction vs with
  | nil => intro cs o j _; rw [splice, if_neg (by simp)]
  | cons v vs ih =>
    intro cs o j h
    simp only [List.length_cons] at h ⊢
    rw [splice, ih _ _ _ (by simp; omega)]
    by_cases h1 : o + 1 ≤ j ∧ j < o + 1 + vs.length
    · rw [if_pos h1, if_pos (by omega), show j - o = (j - (o + 1)) + 1 by omega, List.getElem?_cons_succ]
    · rw [if_neg h1]
      by_cases h2 : j = o
      · subst h2; rw [if_pos (by omega), Nat.sub_self, Array.getElem?_setIfInBounds_self, if_pos (by omega)]; rfl
      · rw [if_neg (by omega), Array.getElem?_setIfInBounds_ne (by omega)]
theorem splice_all (cs : Array Value) (vs : List Value) (h : vs.length = cs.size) : splice cs 0 vs = vs.toArray := by
  apply Array.ext_getElem?
  intro j
  rw [splice_get _ _ _ _ (by omega)]
  by_cases hj : j < vs.length
  · rw [if_pos (by omega), Nat.sub_zero]; simp
  · rw [if_neg (by omega), Array.getElem?_eq_none (by omega), Array.getElem?_eq_none (by simp; omega)]

theorem Blk.setCells {g : Nat} {t : TypeId} (vs : List Value) : ∀ {w : World} {cs : Array Value} (o : Nat), Blk w g t cs → Blk (w.setCells g o vs) g t (splice cs o vs) := by
  induction vs with
  | nil => intro w cs o h; exact h
  | cons v vs ih => intro w cs o h; exact ih (o + 1) (h.set o v)
theorem Keeps.setCells {S : List Nat} {a : World} {g : Nat} (hg : g ∈ S ∨ a.heap.size ≤ g) (vs : List Value) : ∀ {w : World} (o : Nat), Keeps S a w → Keeps S a (w.setCells g o vs) := by
  induction vs with
  | nil => intro w o h; exact h
  | cons v vs ih => intro w o h; exact ih (o + 1) (h.setCell (p := ⟨g, o, none⟩) v hg)
theorem Blk.there {w : World} {g : Nat} {t : TypeId} {cs : Array Value} (h : Blk w g t cs) {o n : Nat} (hn : o + n ≤ cs.size) : w.there g o n := fun j hj => by
  refine ⟨?_, h.frozen _⟩
  rw [h.cell]
  simp
  omega

theorem below_drewN {B : Nat} {a w : World} (h : Below B a w) (n : Nat) : Below B a (w.drewN n) := ⟨h.os, h.tape, h.output, h.size, h.block⟩

section
variable {P : Program} {w : World}
/-- A whole value is stored over a whole block. -/
theorem wp_store_blk {o : Oper} {a : Act} {K : Act → World → Prop} {Q : Exit → Act → World → Prop} (ty : TypeId) (x y : Operand) (ho : o.op = .store ty x y)
    (g : Nat) (t : TypeId) (cs cells : Array Value) (hx : a.eval x = .pointer (some ⟨g, 0, none⟩)) (hy : a.eval y = .agg cells)
    (hB : Blk w g t cs) (hs : cells.size = cs.size) (hi : (P.info? ty).map (·.size) = some cells.size) (h1 : cells.all (·.oneCell') = true)
    (h : ∀ w', Blk w' g t cells → Keeps [g] w w' → K (a.put o.dst undef) w') : o.wp P a w K Q := by
  refine wp_store_mid ty x y ho g 0 cells hx hy (hB.there (by omega)) hi h1 (h _ ?_ (Keeps.setCells (.inl (by simp)) _ _ (Keeps.refl _ _)))
  have := hB.setCells cells.toList 0
  rwa [splice_all _ _ (by simpa using hs)] at this
theorem wpList_store_blk {ops : Array Oper} {rest : List Oper} {o : Oper} {a : Act} {Q : Exit → Act → World → Prop} (hgd : o.guard = none) (ty : TypeId) (x y : Operand) (ho : o.op = .store ty x y)
    (g : Nat) (t : TypeId) (cs cells : Array Value) (hx : a.eval x = .pointer (some ⟨g, 0, none⟩)) (hy : a.eval y = .agg cells)
    (hB : Blk w g t cs) (hs : cells.size = cs.size) (hi : (P.info? ty).map (·.size) = some cells.size) (h1 : cells.all (·.oneCell') = true)
    (h : ∀ w', Blk w' g t cells → Keeps [g] w w' → wpList P ops Q rest (a.put o.dst undef) w') : wpList P ops Q (o :: rest) a w :=
  wpList_plain hgd fun _ hK => wp_store_blk ty x y ho g t cs cells hx hy hB hs hi h1 fun w' h2 h3 => hK _ _ (h w' h2 h3)
/-- A whole block is loaded. -/
theorem wpList_load_blk {ops : Array Oper} {rest : List Oper} {o : Oper} {a : Act} {Q : Exit → Act → World → Prop} (hgd : o.guard = none) (ty : TypeId) (x : Operand) (ho : o.op = .load ty x)
    (g : Nat) (hx : a.eval x = .pointer (some ⟨g, 0, none⟩)) (t : TypeId) (cs : Array Value) (d : TypeDesc) (hB : Blk w g t cs)
    (hu : P.underlying ty = some d) (hd : (match d with | .struct _ | .array _ _ => true | _ => false) = true) (hi : (P.info? ty).map (·.size) = some cs.size)
    (h : wpList P ops Q rest (a.put o.dst (.agg cs)) w) : wpList P ops Q (o :: rest) a w :=
  wpList_load_row hgd ty x ho g hx t cs (0, 0) d hB hu hd hi h
/-- The result lies in a block. -/
theorem post_blk {fn : Func} {R : Ending → World → Prop} {a : Act} {p : Tmp} {ty : TypeId} (hr : fn.results = #[.cell p ty]) (hd0 : a.defers = []) (g : Nat) (t : TypeId) (cs : Array Value) (d : TypeDesc)
    (hp : a.tmps.getD p undef = .pointer (some ⟨g, 0, none⟩)) (hB : Blk w g t cs)
    (hu : P.underlying ty = some d) (hd : (match d with | .struct _ | .array _ _ => true | _ => false) = true) (hi : (P.info? ty).map (·.size) = some cs.size)
    (h : R (.returned (.agg cs)) w) : bodyPost P fn R .ret a w :=
  bodyPost_ret (results_cell_row hr _ _ g t cs (0, 0) d hp hB hu hd hi) hd0 h
end
end Go.Proofs.Ytbjlmhbpcopfbaa

/- Words for memory: a slice of the call's own, told by its cells (whatever block it lies in); append to it. -/
namespace Go.Proofs.Ytbjlmhbpcopfbaa
open Go.RowKit

/-- v is a slice of n elements, sz cells each, that reads xs, in a block of S of which nothing else is known to hang; append may write behind it. -/
def Own (w : World) (sz : Nat) (v : Value) (n : Nat) (xs : List Value) (S : List Nat) : Prop :=
  xs.length = n * sz ∧ ((∃ A, v = .slice A 0 0 ∧ n = 0 ∧ S = []) ∨
   ∃ g off cap, v = .slice (some ⟨g, off, none⟩) n cap ∧ S = [g] ∧ n ≤ cap ∧ cap ≤ maxLen ∧ g < w.heap.size ∧ w.there g off (cap * sz) ∧ w.rangeAt g off xs)

section
variable {w w' : World} {sz n : Nat} {v : Value} {xs : List Value} {S : List Nat}
theorem Own.nil (w : World) (sz : Nat) : Own w sz (.slice none 0 0) 0 [] [] := ⟨by simp, .inl ⟨_, rfl, rfl, rfl⟩⟩
theorem Own.lt (h : Own w sz v n xs S) : ∀ x ∈ S, x < w.heap.size := by
  rcases h.2 with ⟨_, _, _, rfl⟩ | ⟨g, off, cap, _, rfl, _, _, hl, _⟩
  · simp
  · intro x hx; simp at hx; subst hx; exact hl
theorem frozen_of_block {p : Addr} (h : w'.heap[p.block]? = w.heap[p.block]?) : w'.frozen? p = w.frozen? p := by
  unfold World.frozen?; rw [h]
theorem Keeps.frozen {S : List Nat} (h : Keeps S w w') {p : Addr} (hp : p.block < w.heap.size) (hn : p.block ∉ S) : w'.frozen? p = w.frozen? p :=
  frozen_of_block (h.block p.block hp hn)
theorem Own.keeps {S' : List Nat} (h : Own w sz v n xs S) (k : Keeps S' w w') (hd : ∀ x ∈ S, x ∉ S') : Own w' sz v n xs S := by
  refine ⟨h.1, ?_⟩
  rcases h.2 with h2 | ⟨g, off, cap, hv, rfl, hn, hm, hl, ht, hr⟩
  · exact .inl h2
  · have hg : g ∉ S' := hd g (by simp)
    refine .inr ⟨g, off, cap, hv, rfl, hn, hm, Nat.lt_of_lt_of_le hl k.size, fun j hj => ?_, fun j u hu => ?_⟩
    · rw [k.cell (p := ⟨g, off + j, none⟩) hl hg, k.frozen (p := ⟨g, off + j, none⟩) hl hg]; exact ht j hj
    · rw [k.cell (p := ⟨g, off + j, none⟩) hl hg]; exact hr j u hu
theorem Own.below (h : Own w sz v n xs S) (k : Below w.heap.size w w') : Own w' sz v n xs S := h.keeps (Keeps.of_below (S := []) k) (by simp)
theorem Own.alloc (h : Own w sz v n xs S) (o : Obj) : Own (w.alloc o) sz v n xs S := h.keeps ((Keeps.refl [] w).alloc o) (by simp)
/-- As a value: its address, its cells. -/
theorem Own.form (h : Own w sz v n xs S) : ∃ A cap, v = .slice A n cap ∧ n ≤ cap ∧ cap ≤ maxLen ∧ Rd w A xs ∧ (A = none → n = 0 ∧ cap = 0) := by
  rcases h.2 with ⟨A, hv, rfl, rfl⟩ | ⟨g, off, cap, hv, rfl, hn, hm, hl, ht, hr⟩
  · have : xs = [] := List.eq_nil_of_length_eq_zero (by simpa using h.1)
    subst this
    exact ⟨A, 0, hv, Nat.le_refl _, by simp [maxLen], Rd.nil _ _, by simp⟩
  · exact ⟨_, cap, hv, hn, hm, fun j u hu => ⟨_, rfl, by rw [Addr.add_lit]; exact hr j u hu⟩, by simp⟩
theorem Own.rd {A : Option Addr} {cap : Nat} (h : Own w sz (.slice A n cap) n xs S) : Rd w A xs := by
  obtain ⟨A', c', e, _, _, hr, _⟩ := h.form
  injection e with e1
  rw [e1]
  exact hr
theorem Own.addr {A : Option Addr} {cap : Nat} (h : Own w sz (.slice A n cap) n xs S) (h0 : 0 < n) : ∃ ad, A = some ad ∧ ad.block ∈ S := by
  rcases h.2 with ⟨_, _, hn, _⟩ | ⟨g, off, c, e, rfl, _⟩
  · omega
  · injection e with e
    exact ⟨_, e, by simp⟩
end

section
variable {P : Program} (w : World)
theorem run_append_ownc (t ty e : TypeId) (i : TypeInfo) (z : Value) (size bytes : Nat) (ht : P.underlying t = some (.slice e)) (hi : P.info? e = some i) (hz : i.zero = some z)
    (hsize : i.size = size) (hby : i.bytes = bytes) (hzs : z.cells.size = size)
    (v : Value) (n : Nat) (xs : List Value) (S : List Nat) (hseg : Own w size v n xs S)
    (A : Option Addr) (m c : Nat) (news : List Value) (hl : news.length = m * size) (hnews : Rd w A news) (hA : A = none → m = 0) (h1 : ∀ u ∈ news, u.oneCell' = true)
    (h63 : n + m ≤ maxLen) (hbytes : (n + m) * bytes ≤ 140737488355328) :
    ∃ v' w' S', (Builtin.append_ #[t, t] ty #[v, .slice A m c]).run P w = .ok v' w' ∧ Own w' size v' (n + m) (xs ++ news) S' ∧ Keeps S w w' ∧ (S' = S ∨ S' = [w.heap.size]) := by
  subst hsize
  subst hby
  have hsmall : n + m ≤ 9223372036854775807 := by simp only [maxLen] at h63; omega
  have hlen : (xs ++ news).length = (n + m) * i.size := by rw [List.length_append, hseg.1, hl, Nat.add_mul]
  by_cases hm : m = 0
  · subst hm
    have hn : news = [] := List.eq_nil_of_length_eq_zero (by simpa using hl)
    subst hn
    refine ⟨v, w, S, ?_, by simpa using hseg, Keeps.refl _ _, .inl rfl⟩
    rcases hseg.2 with ⟨B, rfl, rfl, _⟩ | ⟨g, off, cap, rfl, _, hnc, _⟩
    · cases B <;> cases A <;> simp [Builtin.append_, run_underlying ht, sizeOf, typeInfo, hi, Builtin.lenOf, Builtin.firstCells, loadCells, loadCellsFrom, storeCells]
    · cases A <;> simp [Builtin.append_, run_underlying ht, sizeOf, typeInfo, hi, Builtin.lenOf, Builtin.firstCells, loadCells, loadCellsFrom, storeCells, hnc]
  · obtain ⟨a, rfl⟩ : ∃ a, A = some a := by
      cases A with
      | none => exact absurd (hA rfl) hm
      | some a => exact ⟨a, rfl⟩
    have hnews' : ∀ j u, news[j]? = some u → w.cell? (a.add j) = some u := fun j u hu => by
      obtain ⟨ad, e, h⟩ := hnews j u hu
      injection e with e; subst e; exact h
    have grown : ∀ (old : Nat), old < n + m →
        Own (w.drew.alloc (.cells (xs.toArray ++ news.toArray ++ Builtin.zeroCells z.cells (grownCap w (n + m) old e - (n + m))) e)) i.size
          (.slice (some ⟨w.heap.size, 0, none⟩) (n + m) (grownCap w (n + m) old e)) (n + m) (xs ++ news) [w.heap.size] := by
      intro old ho
      have hge := grownCap_ge w (n + m) old e
      have hcm : grownCap w (n + m) old e ≤ maxLen := grownCap_le_maxLen w (n + m) old e h63
      have hb := Blk.new w.drew e (xs.toArray ++ news.toArray ++ Builtin.zeroCells z.cells (grownCap w (n + m) old e - (n + m)))
      refine ⟨hlen, .inr ⟨w.heap.size, 0, _, rfl, rfl, hge, hcm, hb.lt, hb.there ?_, ?_⟩⟩
      · simp only [Array.size_append, List.size_toArray, size_zeroCells, hzs, hseg.1, hl, ← Nat.add_mul, Nat.zero_add]
        exact Nat.mul_le_mul_right _ (by omega)
      · intro j u hu
        have hj : j < (xs ++ news).length := (List.getElem?_eq_some_iff.1 hu).1
        refine (hb.cell _).trans ?_
        simp only [Nat.zero_add]
        rw [Array.getElem?_append_left (by simpa using hj)]
        simpa using hu
    rcases hseg.2 with ⟨B, rfl, rfl, rfl⟩ | ⟨g, off, cap, rfl, rfl, hnc, hcm, hgl, hth, hx⟩
    · have hx : xs = [] := List.eq_nil_of_length_eq_zero (by simpa using hseg.1)
      subst hx
      rcases B with _ | b
      rotate_left
      · have hr := run_append_grow (P := P) w t ty e i z ht hi hz b 0 0 [] (by simp) (by simp) a m c news hl hnews' (by omega) (by omega) (growslice_fits (by omega) hbytes)
        exact ⟨_, _, _, hr, grown 0 (by omega), ((Keeps.refl [] w).drew).alloc _, .inr rfl⟩
      have hr := run_append_nil (P := P) w t ty e i z ht hi hz a m c news hl hnews' (by omega) (by omega) (by have hb := hbytes; simp only [Nat.zero_add] at hb; omega)
      have hgr := grown 0 (by omega)
      simp only [Nat.zero_add, List.nil_append, Array.empty_append] at hgr ⊢
      exact ⟨_, _, _, hr, hgr, ((Keeps.refl [] w).drew).alloc _, .inr rfl⟩
    · by_cases hroom : n + m ≤ cap
      · have hk : (n + m) * i.size ≤ cap * i.size := Nat.mul_le_mul_right _ hroom
        have hnl : n * i.size + news.length = (n + m) * i.size := by rw [hl, Nat.add_mul]
        have hf := run_firstCells_some (P := P) w i.size m a m c news hl hnews'
        have hst := run_storeCells_cells (P := P) g (off + n * i.size) news 0 w (fun j hj => by have := (hth (n * i.size + j) (by omega)).1; rw [← Nat.add_assoc] at this; simpa using this)
          (fun j hj => by have := (hth (n * i.size + j) (by omega)).2; rw [← Nat.add_assoc] at this; simpa using this) h1
        simp only [Nat.add_zero] at hst
        have hr : (Builtin.append_ #[t, t] ty #[.slice (some ⟨g, off, none⟩) n cap, .slice (some a) m c]).run P w =
            .ok (.slice (some ⟨g, off, none⟩) (n + m) cap) (w.setCells g (off + n * i.size) news) := by
          simp [Builtin.append_, run_underlying ht, sizeOf, typeInfo, hi, Builtin.lenOf, hroom, hf, Addr.add_lit, hst]
        have hkp : Keeps [g] w (w.setCells g (off + n * i.size) news) := Keeps.setCells (.inl (by simp)) _ _ (Keeps.refl _ _)
        refine ⟨_, _, [g], hr, ⟨hlen, .inr ⟨g, off, cap, rfl, rfl, hroom, hcm, Nat.lt_of_lt_of_le hgl hkp.size, World.there_setCells hth _ _ _, ?_⟩⟩, hkp, .inl rfl⟩
        intro j u hu
        by_cases hjn : j < n * i.size
        · rw [List.getElem?_append_left (by rw [hseg.1]; exact hjn)] at hu
          exact World.rangeAt_setCells_apart hx g (off + n * i.size) news (.inr (.inl (by rw [hseg.1]; exact Nat.le_refl _))) j u hu
        · rw [List.getElem?_append_right (by rw [hseg.1]; omega), hseg.1] at hu
          have hs := World.rangeAt_setCells_same w g (off + n * i.size) news (fun q hq => by have := hth (n * i.size + q) (by omega); rw [← Nat.add_assoc] at this; exact this) (j - n * i.size) u hu
          rw [show off + n * i.size + (j - n * i.size) = off + j by omega] at hs
          exact hs
      · have holds : ∀ j u, xs[j]? = some u → w.cell? ((⟨g, off, none⟩ : Addr).add j) = some u := fun j u hu => by
          rw [Addr.add_lit]; exact hx j u hu
        have hr := run_append_grow (P := P) w t ty e i z ht hi hz ⟨g, off, none⟩ n cap xs hseg.1 holds a m c news hl hnews' (by omega) (by omega) (growslice_fits (by omega) hbytes)
        exact ⟨_, _, _, hr, grown cap (by omega), ((Keeps.refl [g] w).drew).alloc _, .inr rfl⟩

theorem wp_append_ownc {o : Oper} {a : Act} {K : Act → World → Prop} {Q : Exit → Act → World → Prop} (s x : Operand) (t : TypeId)
    (ho : o.op = .call { callee := .builtin .append, args := #[s, x], argTypes := #[t, t] })
    (e : TypeId) (z : Value) (size bytes : Nat) (ht : P.underlying t = some (.slice e)) (hi : (P.info? e).map (fun i => (i.zero, i.size, i.bytes)) = some (some z, size, bytes)) (hzs : z.cells.size = size)
    (v : Value) (n : Nat) (xs : List Value) (S : List Nat) (hs : a.eval s = v) (hseg : Own w size v n xs S)
    (A : Option Addr) (m c : Nat) (news : List Value) (hx : a.eval x = .slice A m c) (hl : news.length = m * size) (hnews : Rd w A news) (hA : A = none → m = 0) (h1 : ∀ u ∈ news, u.oneCell' = true)
    (h63 : n + m ≤ maxLen) (hbytes : (n + m) * bytes ≤ 140737488355328)
    (h : ∀ v' w' S', Own w' size v' (n + m) (xs ++ news) S' → Keeps S w w' → (S' = S ∨ S' = [w.heap.size]) → K (a.put o.dst v') w') : o.wp P a w K Q := by
  obtain ⟨i, hi, hz, hsize, hby⟩ := info_parts hi
  obtain ⟨v', w', S', hr, h2, h3, h4⟩ := run_append_ownc (P := P) w t o.type e i z size bytes ht hi hz hsize hby hzs v n xs S hseg A m c news hl hnews hA h1 h63 hbytes
  unfold Oper.wp execOp
  simp only [ho, resolve, invoke, builtin, Sem.run_bind, Sem.run_pure, Result.andThen_ok, List.map_toArray, List.map_cons, List.map_nil, hs, hx, hr]
  exact h v' w' S' h2 h3 h4

theorem wpList_append_ownc {ops : Array Oper} {rest : List Oper} {o : Oper} {a : Act} {Q : Exit → Act → World → Prop} (hgd : o.guard = none) (s x : Operand) (t : TypeId)
    (ho : o.op = .call { callee := .builtin .append, args := #[s, x], argTypes := #[t, t] })
    (e : TypeId) (z : Value) (size bytes : Nat) (ht : P.underlying t = some (.slice e)) (hi : (P.info? e).map (fun i => (i.zero, i.size, i.bytes)) = some (some z, size, bytes)) (hzs : z.cells.size = size)
    (v : Value) (n : Nat) (xs : List Value) (S : List Nat) (hs : a.eval s = v) (hseg : Own w size v n xs S)
    (A : Option Addr) (m c : Nat) (news : List Value) (hx : a.eval x = .slice A m c) (hl : news.length = m * size) (hnews : Rd w A news) (hA : A = none → m = 0) (h1 : ∀ u ∈ news, u.oneCell' = true)
    (h63 : n + m ≤ maxLen) (hbytes : (n + m) * bytes ≤ 140737488355328)
    (h : ∀ v' w' S', Own w' size v' (n + m) (xs ++ news) S' → Keeps S w w' → (S' = S ∨ S' = [w.heap.size]) → wpList P ops Q rest (a.put o.dst v') w') : wpList P ops Q (o :: rest) a w :=
  wpList_plain hgd fun _ hK => wp_append_ownc w s x t ho e z size bytes ht hi hzs v n xs S hs hseg A m c news hx hl hnews hA h1 h63 hbytes fun v' w' S' h2 h3 h4 => hK _ _ (h v' w' S' h2 h3 h4)
end
end Go.Proofs.Ytbjlmhbpcopfbaa

/- Regions by types: what each operation puts into its slot is told by a type (a property of world and value that stays true while the blocks on which it hangs stand); one derivation, in the order of the text, serves whatever order is drawn. -/
namespace Go.Proofs.Ytbjlmhbpcopfbaa
open Go.RowKit

/-- The blocks of S are of no type that stands in el. -/
def Apart (w : World) (S : List Nat) (el : TypeId → Bool) : Prop := ∀ b ∈ S, b < w.heap.size → ∃ cs t fr, w.heap[b]? = some (.cells cs t fr) ∧ el t = false

/-- A type: a property of world and value; el: the types of the blocks on which it hangs. -/
structure Ty where
  p : World → Value → Prop
  el : TypeId → Bool
  st : ∀ {w w' v S}, p w v → Keeps S w w' → Apart w S el → p w' v
theorem Ty.below (τ : Ty) {w w' : World} {v : Value} (h : τ.p w v) (hb : Below w.heap.size w w') : τ.p w' v :=
  τ.st h (Keeps.of_below (S := []) hb) (fun _ hb => by cases hb)

/-- Just this value. -/
def Ty.ex (v : Value) : Ty := ⟨fun _ u => u = v, fun _ => false, fun h _ _ => h⟩
/-- A new variable of w0: a block of its own. -/
def Ty.var (w0 : World) (t : TypeId) (z : Array Value) : Ty := ⟨fun w u => ∃ g, u = .pointer (some ⟨g, 0, none⟩) ∧ w0.heap.size ≤ g ∧ Blk w g t z, fun u => u == t, fun {w w' v S} h k hA => by
  obtain ⟨g, h1, h2, h3⟩ := h
  refine ⟨g, h1, h2, h3.keeps k (fun hg => ?_)⟩
  obtain ⟨cs, t', fr, h4, h5⟩ := hA g hg h3.lt
  unfold Blk at h3
  rw [h3] at h4
  simp only [Option.some.injEq, Obj.cells.injEq] at h4
  rw [← h4.2.1] at h5
  simp at h5⟩

abbrev Ctx := List (Nat × Ty)
def look : Ctx → Nat → Option Ty
  | [], _ => none
  | p :: Γ, s => bif Nat.beq p.1 s then some p.2 else look Γ s
theorem look_same (d : Nat) (V : Ty) (Γ : Ctx) : look ((d, V) :: Γ) d = some V := by simp [look]
theorem look_ne {d s : Nat} (V : Ty) (Γ : Ctx) (h : d ≠ s) : look ((d, V) :: Γ) s = look Γ s := by
  have : Nat.beq d s = false := by
    cases hb : Nat.beq d s with
    | false => rfl
    | true => exact absurd (Nat.eq_of_beq_eq_true hb) h
  simp [look, this]

/-- A frame of N slots: what the slots hold. -/
structure Fr (N : Nat) (Γ : Ctx) (a : Act) (w : World) : Prop where
  size : a.tmps.size = N
  defers : a.defers = []
  val : ∀ (s : Nat) (τ : Ty), look Γ s = some τ → ∃ v, a.tmps[s]? = some v ∧ τ.p w v
section
variable {N : Nat} {Γ : Ctx} {a : Act} {w w' : World}
theorem Fr.get (h : Fr N Γ a w) {s : Nat} {τ : Ty} (hs : look Γ s = some τ) : ∃ v, a.eval (.tmp s) = v ∧ τ.p w v := by
  obtain ⟨v, h1, h2⟩ := h.val s τ hs
  exact ⟨v, by simp [Act.eval, Array.getD_eq_getD_getElem?, h1], h2⟩
theorem Fr.getEx (h : Fr N Γ a w) {s : Nat} {v : Value} (hs : look Γ s = some (Ty.ex v)) : a.eval (.tmp s) = v := by
  obtain ⟨u, h1, h2⟩ := h.get hs
  exact h1.trans h2
theorem Fr.put (h : Fr N Γ a w) {d : Nat} (hd : d < N) {V : Ty} {v : Value} (hb : Below w.heap.size w w') (hv : V.p w' v) : Fr N ((d, V) :: Γ) (a.put (some d) v) w' := by
  refine ⟨by simp only [Act.put]; simpa using h.size, h.defers, fun s τ hs => ?_⟩
  by_cases hds : d = s
  · subst hds
    rw [look_same] at hs
    injection hs with hs
    subst hs
    refine ⟨v, ?_, hv⟩
    simp only [Act.put]
    rw [Array.getElem?_setIfInBounds_self, if_pos (by rw [h.size]; exact hd)]
  · rw [look_ne _ _ hds] at hs
    obtain ⟨u, h1, h2⟩ := h.val s τ hs
    refine ⟨u, ?_, τ.below h2 hb⟩
    simp only [Act.put]
    rw [Array.getElem?_setIfInBounds_ne hds]
    exact h1
/-- Fewer slots, or other words for them. -/
theorem Fr.nil (h : Fr N Γ a w) : Fr N [] a w := ⟨h.size, h.defers, fun s τ hs => by cases hs⟩
theorem Fr.as {Δ : Ctx} (h : Fr N Γ a w) (hr : Fr N Δ a w) {s : Nat} {τ σ : Ty} (hs : look Γ s = some τ) (hc : ∀ v, τ.p w v → σ.p w v) : Fr N ((s, σ) :: Δ) a w := by
  refine ⟨h.size, h.defers, fun s' τ' hs' => ?_⟩
  by_cases hss : s = s'
  · subst hss
    rw [look_same] at hs'
    injection hs' with hs'
    subst hs'
    obtain ⟨v, h1, h2⟩ := h.val s τ hs
    exact ⟨v, h1, hc v h2⟩
  · rw [look_ne _ _ hss] at hs'
    exact hr.val s' τ' hs'
theorem Fr.too {Δ : Ctx} (h : Fr N Γ a w) (hr : Fr N Δ a w) {s : Nat} {τ : Ty} (hs : look Γ s = some τ) : Fr N ((s, τ) :: Δ) a w := h.as hr hs (fun _ h => h)
/-- A slot's value under a letter. -/
theorem Fr.open (h : Fr N Γ a w) {s : Nat} {τ : Ty} (hs : look Γ s = some τ) : ∃ v, τ.p w v ∧ Fr N ((s, Ty.ex v) :: Γ) a w := by
  obtain ⟨v, h1, h2⟩ := h.val s τ hs
  refine ⟨v, h2, h.size, h.defers, fun s' τ' hs' => ?_⟩
  by_cases hss : s = s'
  · subst hss
    rw [look_same] at hs'
    injection hs' with hs'
    subst hs'
    exact ⟨v, h1, rfl⟩
  · rw [look_ne _ _ hss] at hs'
    exact h.val s' τ' hs'
/-- The world goes on, but for the blocks of S. -/
theorem Fr.keeps (h : Fr N Γ a w) {S : List Nat} (k : Keeps S w w') (hA : ∀ (s : Nat) (τ : Ty), look Γ s = some τ → Apart w S τ.el) : Fr N Γ a w' :=
  ⟨h.size, h.defers, fun s τ hs => let ⟨v, h1, h2⟩ := h.val s τ hs; ⟨v, h1, τ.st h2 k (hA s τ hs)⟩⟩
end

def Oper.reads (o : Oper) : List Nat := o.op.operands.toList.filterMap fun | .tmp t => some t | _ => none

/-- Operation o yields a value of type V, in whatever later world, if the slots that it reads are as Γ says. -/
def OpOk (P : Program) (w0 : World) (Γ : Ctx) (o : Oper) (V : Ty) : Prop :=
  ∀ (a : Act) (w : World) (K : Act → World → Prop) (Q : Exit → Act → World → Prop), Below w0.heap.size w0 w →
    (∀ (s : Nat) (τ : Ty), s ∈ Oper.reads o → look Γ s = some τ → ∃ v, a.tmps[s]? = some v ∧ τ.p w v) →
    (∀ v w', V.p w' v → Below w.heap.size w w' → K (a.put o.dst v) w') → o.wp P a w K Q

def slotOf (ops : Array Oper) (j : Nat) : Option Nat := (ops[j]?).bind (·.dst)

def isNew (o : Oper) : Bool := match o.op with | .alloc _ => true | _ => false

/-- A line: what an operation does to Γ. -/
inductive Fact (P : Program) (ops : Array Oper) (w0 : World) (Γ : Ctx) (o : Oper) (V : Ty) : Prop
  | run (hg : o.guard = none) (hn : isNew o = false) (h : OpOk P w0 Γ o V)
  | yes {j s : Nat} {b : Bool} (hg : o.guard = some (j, b)) (hj : slotOf ops j = some s) (hs : look Γ s = some (Ty.ex (.bool b))) (hn : isNew o = false) (h : OpOk P w0 Γ o V)
  | no {j s : Nat} {b c : Bool} (hg : o.guard = some (j, c)) (hj : slotOf ops j = some s) (hs : look Γ s = some (Ty.ex (.bool b))) (hbc : (b == c) = false) (hn : isNew o = false) (hV : V = Ty.ex undef)
  | new {t : TypeId} {z : Array Value} (hg : o.guard = none) (ho : o.op = .alloc t) (hz : ∀ w : World, (Instr.alloc t true (.tuple #[])).run P w = .ok (.pointer (some ⟨w.heap.size, 0, none⟩)) (w.alloc (.cells z t))) (hV : V = Ty.var w0 t z)

/-- The lines of a region, or of its head. -/
inductive Line (P : Program) (ops : Array Oper) (w0 : World) : Ctx → List Oper → List Ty → Prop
  | nil {Γ : Ctx} : Line P ops w0 Γ [] []
  | cons {Γ : Ctx} {d : Nat} {o : Oper} {V : Ty} {os : List Oper} {Vs : List Ty} (hd : o.dst = some d) (h : Fact P ops w0 Γ o V) (t : Line P ops w0 ((d, V) :: Γ) os Vs) : Line P ops w0 Γ (o :: os) (V :: Vs)
def ext : Ctx → List Oper → List Ty → Ctx
  | Γ, o :: os, V :: Vs => ext ((o.dst.getD 0, V) :: Γ) os Vs
  | Γ, _, _ => Γ

/-- What is asked of a region's order: edges go back; slots are written once; what is read is waited for. -/
def okAt (ops : Array Oper) (N n i : Nat) (o : Oper) : Bool :=
  (o.after.all fun e => !Region.binds .any e || decide (e.on < i)) &&
  (match o.dst with
   | none => false
   | some d => decide (d < N) && (List.range n).all fun j => match ops[j]? with
     | none => false
     | some oj => (j == i) || (oj.dst != some d &&
        (!(oj.looksAt ops).contains d || (if decide (i < j) then Region.waitsFor .any ops j i else Region.waitsFor .any ops i j))))
def regB (ops : Array Oper) (N n : Nat) : Bool := (List.range n).all fun i => match ops[i]? with | none => false | some o => okAt ops N n i o
theorem regB_at {ops : Array Oper} {N n i : Nat} (h : regB ops N n = true) (hi : i < n) : ∃ o d, ops[i]? = some o ∧ o.dst = some d ∧ d < N ∧ (∀ e ∈ o.after, Region.binds .any e = true → e.on < i) ∧
    ∀ (j : Nat) (oj : Oper), j < n → ops[j]? = some oj → j ≠ i → oj.dst ≠ some d ∧ (d ∈ oj.looksAt ops → (i < j → Region.waitsFor .any ops j i = true) ∧ (j < i → Region.waitsFor .any ops i j = true)) := by
  have h1 := List.all_eq_true.1 h i (List.mem_range.2 hi)
  cases ho : ops[i]? with
  | none => rw [ho] at h1; cases h1
  | some o =>
    rw [ho] at h1
    simp only [okAt, Bool.and_eq_true] at h1
    obtain ⟨h2, h3⟩ := h1
    cases hd : o.dst with
    | none => rw [hd] at h3; cases h3
    | some d =>
      rw [hd] at h3
      simp only [Bool.and_eq_true, decide_eq_true_eq] at h3
      refine ⟨o, d, rfl, hd, h3.1, fun e he hb => ?_, fun j oj hj hoj hne => ?_⟩
      · simp only [Array.all_eq_true_iff_forall_mem] at h2
        have := h2 e he
        simp [hb] at this
        exact this
      · have h4 := List.all_eq_true.1 h3.2 j (List.mem_range.2 hj)
        rw [hoj] at h4
        simp only [Bool.or_eq_true, Bool.and_eq_true, beq_iff_eq, bne_iff_ne, ne_eq, Bool.not_eq_true', hne, false_or] at h4
        refine ⟨h4.1, fun hm => ?_⟩
        have h5 := h4.2
        have h6 : ((oj.looksAt ops).contains d) = true := by simpa using hm
        rw [h6] at h5
        simp only [Bool.true_eq_false, false_or] at h5
        refine ⟨fun hlt => ?_, fun hlt => ?_⟩
        · rwa [if_pos (by simpa using hlt)] at h5
        · rwa [if_neg (by simp; omega)] at h5

theorem reads_looksAt {ops : Array Oper} {o : Oper} {s : Nat} (h : s ∈ Oper.reads o) : s ∈ o.looksAt ops := by
  unfold Oper.looksAt
  exact List.mem_append_left _ h
theorem guard_looksAt {ops : Array Oper} {o : Oper} {j s : Nat} {b : Bool} (hg : o.guard = some (j, b)) (hj : slotOf ops j = some s) : s ∈ o.looksAt ops := by
  unfold Oper.looksAt
  refine List.mem_append_right _ ?_
  rw [hg]
  simp only [slotOf] at hj
  simp [hj]

/-- What Γ says of the slots that an operation looks at. -/
def Sees (ops : Array Oper) (Γ : Ctx) (o : Oper) (a : Act) (w : World) : Prop := ∀ (s : Nat) (τ : Ty), s ∈ o.looksAt ops → look Γ s = some τ → ∃ v, a.tmps[s]? = some v ∧ τ.p w v

theorem yielded_of {ops : Array Oper} {a : Act} {j s : Nat} {b : Bool} (hj : slotOf ops j = some s) (hv : a.tmps[s]? = some (.bool b)) : yielded ops a.tmps j = some b := by
  unfold slotOf at hj
  simp [yielded, hj, hv]

section
variable {P : Program} {ops : Array Oper} {w0 : World} {Γ : Ctx} {o : Oper} {V : Ty}
theorem wp_new {K : Act → World → Prop} {Q : Exit → Act → World → Prop} {t : TypeId} {z : Array Value} {a : Act} {w : World} (ho : o.op = .alloc t)
    (hz : (Instr.alloc t true (.tuple #[])).run P w = .ok (.pointer (some ⟨w.heap.size, 0, none⟩)) (w.alloc (.cells z t))) (hK : K (a.put o.dst (.pointer (some ⟨w.heap.size, 0, none⟩))) (w.alloc (.cells z t))) : o.wp P a w K Q := by
  unfold Oper.wp execOp
  simp only [ho, Sem.run_bind, hz, Result.andThen_ok, Sem.run_pure]
  exact hK
/-- A line's operation at work. -/
theorem Fact.at_work (h : Fact P ops w0 Γ o V) {a : Act} {w : World} (hb : Below w0.heap.size w0 w) (hs : Sees ops Γ o a w) (K : Act → World → Prop) (Q : Exit → Act → World → Prop)
    (hK : ∀ v w', V.p w' v → Below w.heap.size w w' → (isNew o = true → v = .pointer (some ⟨w.heap.size, 0, none⟩) ∧ w.heap.size < w'.heap.size) → K (a.put o.dst v) w') :
    if Region.wanted o (yielded ops a.tmps) then o.wp P a w K Q else K (a.put o.dst undef) w := by
  cases h with
  | run hg hn h =>
    rw [if_pos (by simp [Region.wanted, hg])]
    exact h a w K Q hb (fun s τ hr hl => hs s τ (reads_looksAt hr) hl) (fun v w' h1 h2 => hK v w' h1 h2 (fun hn' => by rw [hn] at hn'; cases hn'))
  | @yes j s b hg hj hl hn h =>
    obtain ⟨v, hv, he⟩ := hs s _ (guard_looksAt hg hj) hl
    have he : v = .bool b := he
    subst he
    rw [if_pos (by simp [Region.wanted, hg, yielded_of hj hv])]
    exact h a w K Q hb (fun s τ hr hl => hs s τ (reads_looksAt hr) hl) (fun v w' h1 h2 => hK v w' h1 h2 (fun hn' => by rw [hn] at hn'; cases hn'))
  | @no j s b c hg hj hl hbc hn hV =>
    obtain ⟨v, hv, he⟩ := hs s _ (guard_looksAt hg hj) hl
    have he : v = .bool b := he
    subst he
    rw [if_neg (by cases b <;> cases c <;> simp at hbc <;> simp [Region.wanted, hg, yielded_of hj hv])]
    exact hK undef w (by rw [hV]; rfl) (Below.refl _ _) (fun hn' => by rw [hn] at hn'; cases hn')
  | @new t z hg ho hz hV =>
    rw [if_pos (by simp [Region.wanted, hg])]
    refine wp_new ho (hz w) (hK _ _ ?_ ((Keeps.refl [] w).alloc _).below (fun _ => ⟨rfl, by simp⟩))
    rw [hV]
    exact ⟨_, rfl, hb.size, Blk.new w _ _⟩

theorem Line.at_ {l : List Oper} {Vs : List Ty} (h : Line P ops w0 Γ l Vs) : ∀ (i : Nat) (o : Oper), l[i]? = some o → ∃ V Γi, Vs[i]? = some V ∧ Fact P ops w0 Γi o V ∧
    ∀ (s : Nat) (τ : Ty), look Γi s = some τ → (∃ (j : Nat) (oj : Oper), j < i ∧ l[j]? = some oj ∧ oj.dst = some s ∧ Vs[j]? = some τ) ∨ ((∀ (j : Nat) (oj : Oper), j < i → l[j]? = some oj → oj.dst ≠ some s) ∧ look Γ s = some τ) := by
  induction h with
  | nil => intro i o h; simp at h
  | @cons Γ d o V os Vs hd hF t ih =>
    intro i o' ho'
    cases i with
    | zero =>
      simp only [List.getElem?_cons_zero, Option.some.injEq] at ho'
      subst ho'
      exact ⟨V, Γ, rfl, hF, fun s τ hl => .inr ⟨fun j oj hj => absurd hj (Nat.not_lt_zero _), hl⟩⟩
    | succ i =>
      simp only [List.getElem?_cons_succ] at ho'
      obtain ⟨V', Γi, h1, h2, h3⟩ := ih i o' ho'
      refine ⟨V', Γi, by simpa using h1, h2, fun s τ hl => ?_⟩
      rcases h3 s τ hl with ⟨j, oj, hj, hoj, hds, hVj⟩ | ⟨hno, hlk⟩
      · exact .inl ⟨j + 1, oj, by omega, by simpa using hoj, hds, by simpa using hVj⟩
      · by_cases hds : d = s
        · subst hds
          rw [look_same] at hlk
          injection hlk with hlk
          subst hlk
          exact .inl ⟨0, o, by omega, rfl, hd, rfl⟩
        · rw [look_ne _ _ hds] at hlk
          refine .inr ⟨fun j oj hj hoj => ?_, hlk⟩
          cases j with
          | zero =>
            simp only [List.getElem?_cons_zero, Option.some.injEq] at hoj
            subst hoj
            rw [hd]
            simpa using hds
          | succ j => exact hno j oj (by omega) (by simpa using hoj)
theorem Line.ext_look {l : List Oper} {Vs : List Ty} (h : Line P ops w0 Γ l Vs) : ∀ (s : Nat) (τ : Ty), look (ext Γ l Vs) s = some τ →
    (∃ (j : Nat) (oj : Oper), l[j]? = some oj ∧ oj.dst = some s ∧ Vs[j]? = some τ) ∨ ((∀ (j : Nat) (oj : Oper), l[j]? = some oj → oj.dst ≠ some s) ∧ look Γ s = some τ) := by
  induction h with
  | nil => intro s τ hl; exact .inr ⟨fun j oj h => by simp at h, hl⟩
  | @cons Γ d o V os Vs hd hF t ih =>
    intro s τ hl
    have e : ext Γ (o :: os) (V :: Vs) = ext ((d, V) :: Γ) os Vs := by simp [ext, hd]
    rw [e] at hl
    rcases ih s τ hl with ⟨j, oj, hoj, hds, hVj⟩ | ⟨hno, hlk⟩
    · exact .inl ⟨j + 1, oj, by simpa using hoj, hds, by simpa using hVj⟩
    · by_cases hds : d = s
      · subst hds
        rw [look_same] at hlk
        injection hlk with hlk
        subst hlk
        exact .inl ⟨0, o, rfl, hd, rfl⟩
      · rw [look_ne _ _ hds] at hlk
        refine .inr ⟨fun j oj hoj => ?_, hlk⟩
        cases j with
        | zero =>
          simp only [List.getElem?_cons_zero, Option.some.injEq] at hoj
          subst hoj
          rw [hd]
          simpa using hds
        | succ j => exact hno j oj (by simpa using hoj)
end

/-- Of the operations that are listed. -/
structure TInv (N n : Nat) (l : List Oper) (Vs : List Ty) (a0 : Act) (w0 : World) (listed : Array Bool) (a : Act) (w : World) : Prop where
  below : Below w0.heap.size w0 w
  defers : a.defers = []
  size : a.tmps.size = N
  out : ∀ s, (∀ (j : Nat) (oj : Oper), j < n → listed.getD j false = true → l[j]? = some oj → oj.dst ≠ some s) → a.tmps[s]? = a0.tmps[s]?
  vals : ∀ (j : Nat) (oj : Oper) (d : Nat) (V : Ty), j < n → listed.getD j false = true → l[j]? = some oj → oj.dst = some d → Vs[j]? = some V → ∃ v, a.tmps[d]? = some v ∧ V.p w v ∧ (isNew oj = true → ∃ g, v = .pointer (some ⟨g, 0, none⟩) ∧ g < w.heap.size)
  news : ∀ (i j : Nat) (oi oj : Oper) (di dj : Nat), i < n → j < n → i ≠ j → listed.getD i false = true → listed.getD j false = true → l[i]? = some oi → l[j]? = some oj → isNew oi = true → isNew oj = true → oi.dst = some di → oj.dst = some dj → a.tmps[di]? ≠ a.tmps[dj]?

/-- New variables are unlike. -/
def News (l : List Oper) (a : Act) : Prop := ∀ (i j : Nat) (oi oj : Oper) (di dj : Nat), i ≠ j → l[i]? = some oi → l[j]? = some oj → isNew oi = true → isNew oj = true → oi.dst = some di → oj.dst = some dj → a.tmps[di]? ≠ a.tmps[dj]?

section
variable {P : Program} {w0 : World} {Γ : Ctx} {N n : Nat} {l : List Oper} {Vs : List Ty} {a0 : Act} {ops : Array Oper}
theorem TInv.start (hF : Fr N Γ a0 w0) {w : World} (hb : Below w0.heap.size w0 w) (m : Nat) : TInv N n l Vs a0 w0 (Array.replicate m false) a0 w :=
  ⟨hb, hF.defers, hF.size, fun _ _ => rfl, fun j _ _ _ _ h => (by rw [getD_replicate_false] at h; cases h), fun i _ _ _ _ _ _ _ _ h => (by rw [getD_replicate_false] at h; cases h)⟩
theorem TInv.step (hB : regB ops N n = true) (hl : ∀ i, i < n → l[i]? = ops[i]?) (hL : Line P ops w0 Γ l Vs) (hF : Fr N Γ a0 w0) {listed : Array Bool} {a : Act} {w : World} (hI : TInv N n l Vs a0 w0 listed a w)
    (hsz : listed.size = ops.size) (hcl : ∀ (j : Nat) (oj : Oper), ops[j]? = some oj → listed.getD j false = true → ∀ e ∈ oj.after, Region.binds .any e = true → listed.getD e.on false = true)
    {i : Nat} {o : Oper} (hi : i < n) (ho : ops[i]? = some o) (hun : listed.getD i false = false) (hdep : ∀ e ∈ o.after, Region.binds .any e = true → listed.getD e.on false = true) (K : Act → World → Prop) (Q : Exit → Act → World → Prop)
    (hK : ∀ a' w', TInv N n l Vs a0 w0 (listed.setIfInBounds i true) a' w' → K a' w') :
    if Region.wanted o (yielded ops a.tmps) then o.wp P a w K Q else K (a.put o.dst undef) w := by
  have hli : l[i]? = some o := (hl i hi).trans ho
  obtain ⟨V, Γi, hV, hFa, hlk⟩ := hL.at_ i o hli
  obtain ⟨o', d, ho', hd, hdN, _, hoth⟩ := regB_at hB hi
  obtain rfl : o = o' := Option.some.inj (ho.symm.trans ho')
  have wf : ∀ {p q : Nat} {op : Oper}, ops[p]? = some op → Region.waitsFor .any ops p q = true → ∃ e ∈ op.after, Region.binds .any e = true ∧ e.on = q := fun {p q op} hp hw => by
    obtain ⟨oj, hoj, e, he, hb, hon⟩ := Region.waitsFor_spec hw
    obtain rfl : op = oj := Option.some.inj (hp.symm.trans hoj)
    exact ⟨e, he, hb, hon⟩
  have hsees : Sees ops Γi o a w := by
    intro s τ hs hls
    rcases hlk s τ hls with ⟨j, oj, hj, hoj, hds, hVj⟩ | ⟨hno, hl0⟩
    · have hjn : j < n := by omega
      have hoj' : ops[j]? = some oj := (hl j hjn).symm.trans hoj
      obtain ⟨oj2, dj, hoj2, hdj, _, _, hothj⟩ := regB_at hB hjn
      obtain rfl : oj = oj2 := Option.some.inj (hoj'.symm.trans hoj2)
      obtain rfl : dj = s := Option.some.inj (hdj.symm.trans hds)
      have h1 := ((hothj i o hi ho (by omega)).2 hs).1 hj
      obtain ⟨e, he, hb, hon⟩ := wf ho h1
      have h2 := hdep e he hb
      rw [hon] at h2
      obtain ⟨v, hv1, hv2, _⟩ := hI.vals j oj dj τ hjn h2 hoj hdj hVj
      exact ⟨v, hv1, hv2⟩
    · obtain ⟨v, hv1, hv2⟩ := hF.val s τ hl0
      refine ⟨v, ?_, τ.below hv2 hI.below⟩
      rw [hI.out s (fun k ok hk hlk' hok hdk => ?_)]
      · exact hv1
      · have hok' : ops[k]? = some ok := (hl k hk).symm.trans hok
        have hki : k ≠ i := fun h => by subst h; rw [hun] at hlk'; cases hlk'
        by_cases hlt : k < i
        · exact hno k ok hlt hok hdk
        · obtain ⟨ok2, dk, hok2, hdk2, _, _, hothk⟩ := regB_at hB hk
          obtain rfl : ok = ok2 := Option.some.inj (hok'.symm.trans hok2)
          obtain rfl : dk = s := Option.some.inj (hdk2.symm.trans hdk)
          have h1 := ((hothk i o hi ho (Ne.symm hki)).2 hs).2 (by omega)
          obtain ⟨e, he, hb, hon⟩ := wf hok' h1
          have h2 := hcl k ok hok' hlk' e he hb
          rw [hon, hun] at h2
          cases h2
  refine hFa.at_work hI.below hsees K Q (fun v w' hv hb hnew => hK _ _ ?_)
  rw [hd]
  have hilt : i < listed.size := by rw [hsz]; exact (Array.getElem?_eq_some_iff.1 ho).1
  have hdne : ∀ (j : Nat) (oj : Oper) (dj : Nat), j < n → j ≠ i → l[j]? = some oj → oj.dst = some dj → d ≠ dj := fun j oj dj hj hne hoj hdj h => by
    subst h
    exact (hoth j oj hj ((hl j hj).symm.trans hoj) hne).1 hdj
  refine ⟨hI.below.trans (hb.mono hI.below.size), hI.defers, by simp only [Act.put]; simpa using hI.size, fun s hs => ?_, fun j oj dj Vj hj hlj hoj hdj hVj => ?_, fun p q op oq dp dq hp hq hne hlp hlq hop hoq hnp hnq hdp hdq => ?_⟩
  · have hds : d ≠ s := fun h => hs i o hi (by simp [Array.getD, hilt]) hli (by rw [hd, h])
    simp only [Act.put]
    rw [Array.getElem?_setIfInBounds_ne hds]
    refine hI.out s (fun j oj hj hlj hoj => ?_)
    refine hs j oj hj ?_ hoj
    by_cases hij : i = j
    · subst hij; rw [hun] at hlj; cases hlj
    · rw [getD_set_ne false hij]; exact hlj
  · by_cases hij : i = j
    · subst hij
      obtain rfl : o = oj := Option.some.inj (hli.symm.trans hoj)
      obtain rfl : d = dj := Option.some.inj (hd.symm.trans hdj)
      obtain rfl : V = Vj := Option.some.inj (hV.symm.trans hVj)
      refine ⟨v, ?_, hv, fun hn => ?_⟩
      · simp only [Act.put]
        rw [Array.getElem?_setIfInBounds_self, if_pos (by rw [hI.size]; exact hdN)]
      · obtain ⟨h1, h2⟩ := hnew hn
        exact ⟨_, h1, h2⟩
    · rw [getD_set_ne false hij] at hlj
      obtain ⟨u, h1, h2, h3⟩ := hI.vals j oj dj Vj hj hlj hoj hdj hVj
      refine ⟨u, ?_, Vj.below h2 hb, fun hn => ?_⟩
      · simp only [Act.put]
        rw [Array.getElem?_setIfInBounds_ne (hdne j oj dj hj (Ne.symm hij) hoj hdj)]
        exact h1
      · obtain ⟨g, h4, h5⟩ := h3 hn
        exact ⟨g, h4, Nat.lt_of_lt_of_le h5 hb.size⟩
  · have far : ∀ (j : Nat) (oj : Oper) (dj : Nat), j < n → j ≠ i → l[j]? = some oj → oj.dst = some dj → (a.put (some d) v).tmps[dj]? = a.tmps[dj]? := fun j oj dj hj hji hoj hdj => by
      simp only [Act.put]
      rw [Array.getElem?_setIfInBounds_ne (hdne j oj dj hj hji hoj hdj)]
    have near : (a.put (some d) v).tmps[d]? = some v := by
      simp only [Act.put]
      rw [Array.getElem?_setIfInBounds_self, if_pos (by rw [hI.size]; exact hdN)]
    have lineV : ∀ (j : Nat) (oj : Oper), l[j]? = some oj → ∃ Vj, Vs[j]? = some Vj := fun j oj hoj => let ⟨Vj, _, h, _⟩ := hL.at_ j oj hoj; ⟨Vj, h⟩
    have other : ∀ (j : Nat) (oj : Oper) (dj : Nat), j < n → j ≠ i → listed.getD j false = true → l[j]? = some oj → isNew oj = true → oj.dst = some dj → isNew o = true → a.tmps[dj]? ≠ some v := fun j oj dj hj hji hlj hoj hnj hdj hno h => by
      obtain ⟨Vj, hVj⟩ := lineV j oj hoj
      obtain ⟨u, h1, _, h3⟩ := hI.vals j oj dj Vj hj hlj hoj hdj hVj
      obtain ⟨g, h4, h5⟩ := h3 hnj
      have h6 := (hnew hno).1
      rw [h1] at h
      injection h with h
      rw [h4, h6] at h
      injection h with h
      injection h with h
      injection h with h
      omega
    by_cases hpi : p = i
    · subst hpi
      obtain rfl : o = op := Option.some.inj (hli.symm.trans hop)
      obtain rfl : d = dp := Option.some.inj (hd.symm.trans hdp)
      rw [near, far q oq dq hq (Ne.symm hne) hoq hdq]
      rw [getD_set_ne false hne] at hlq
      exact fun h => other q oq dq hq (Ne.symm hne) hlq hoq hnq hdq hnp h.symm
    · rw [getD_set_ne false (Ne.symm hpi)] at hlp
      by_cases hqi : q = i
      · subst hqi
        obtain rfl : o = oq := Option.some.inj (hli.symm.trans hoq)
        obtain rfl : d = dq := Option.some.inj (hd.symm.trans hdq)
        rw [near, far p op dp hp hpi hop hdp]
        exact other p op dp hp hpi hlp hop hnp hdp hnq
      · rw [getD_set_ne false (Ne.symm hqi)] at hlq
        rw [far p op dp hp hpi hop hdp, far q oq dq hq hqi hoq hdq]
        exact hI.news p q op oq dp dq hp hq hne hlp hlq hop hoq hnp hnq hdp hdq
theorem TInv.all (hL : Line P ops w0 Γ l Vs) (hn : n = l.length) (hF : Fr N Γ a0 w0) {listed : Array Bool} {a : Act} {w : World} (hI : TInv N n l Vs a0 w0 listed a w) (hall : ∀ i, i < n → listed.getD i false = true) :
    Fr N (ext Γ l Vs) a w ∧ News l a := by
  have lt : ∀ (j : Nat) (oj : Oper), l[j]? = some oj → j < n := fun j oj h => by rw [hn]; exact (List.getElem?_eq_some_iff.1 h).1
  refine ⟨⟨hI.size, hI.defers, fun s τ hs => ?_⟩, fun i j oi oj di dj hne hi hj h1 h2 h3 h4 => hI.news i j oi oj di dj (lt i oi hi) (lt j oj hj) hne (hall i (lt i oi hi)) (hall j (lt j oj hj)) hi hj h1 h2 h3 h4⟩
  rcases hL.ext_look s τ hs with ⟨j, oj, hoj, hds, hVj⟩ | ⟨hno, hl0⟩
  · obtain ⟨v, h1, h2, _⟩ := hI.vals j oj s τ (lt j oj hoj) (hall j (lt j oj hoj)) hoj hds hVj
    exact ⟨v, h1, h2⟩
  · obtain ⟨v, hv1, hv2⟩ := hF.val s τ hl0
    exact ⟨v, by rw [hI.out s (fun j oj _ _ hoj => hno j oj hoj)]; exact hv1, τ.below hv2 hI.below⟩
end

/-- How many of the first n are still to come. -/
def wanting (n : Nat) (listed : Array Bool) : Nat := ((List.range n).filter fun i => !listed.getD i false).length
theorem wanting_zero {n : Nat} {listed : Array Bool} (h : wanting n listed = 0) : ∀ i, i < n → listed.getD i false = true := by
  intro i hi
  unfold wanting at h
  have h1 := List.eq_nil_of_length_eq_zero h
  rw [List.filter_eq_nil_iff] at h1
  have := h1 i (List.mem_range.2 hi)
  simpa using this
theorem filter_less_one {l : List Nat} (hd : l.Nodup) {p q : Nat → Bool} {i : Nat} (hi : i ∈ l) (hp : p i = true) (hq : q i = false) (hpq : ∀ j ∈ l, j ≠ i → q j = p j) : (l.filter q).length + 1 = (l.filter p).length := by
  induction l with
  | nil => cases hi
  | cons x l ih =>
    rw [List.nodup_cons] at hd
    by_cases hx : x = i
    · subst hx
      have e : l.filter q = l.filter p := List.filter_congr fun j hj => hpq j (by simp [hj]) (fun h => hd.1 (h ▸ hj))
      rw [List.filter_cons_of_neg (by simp [hq]), List.filter_cons_of_pos hp, e]
      rfl
    · have hi' : i ∈ l := by
        rcases List.mem_cons.1 hi with h | h
        · exact absurd h.symm hx
        · exact h
      have h := ih hd.2 hi' (fun j hj hne => hpq j (by simp [hj]) hne)
      have hqx := hpq x (by simp) hx
      by_cases hpx : p x = true
      · rw [List.filter_cons_of_pos (by rw [hqx]; exact hpx), List.filter_cons_of_pos hpx]
        simp only [List.length_cons]; omega
      · rw [List.filter_cons_of_neg (by rw [hqx]; exact hpx), List.filter_cons_of_neg hpx]
        exact h
theorem wanting_set {n i : Nat} {listed : Array Bool} (hi : i < n) (hl : i < listed.size) (h : listed.getD i false = false) : wanting n (listed.setIfInBounds i true) + 1 = wanting n listed := by
  unfold wanting
  refine filter_less_one List.nodup_range (List.mem_range.2 hi) (by simp [h]) ?_ (fun j _ hne => ?_)
  · simp [Array.getD, hl]
  · rw [getD_set_ne false (Ne.symm hne)]
theorem ready_head {ops : Array Oper} {listed : Array Bool} {n : Nat} (hback : ∀ i o, i < n → ops[i]? = some o → ∀ e ∈ o.after, Region.binds .any e = true → e.on < i) (hn : n ≤ ops.size) (hs : listed.size = ops.size)
    (h : Region.ready .any ops listed = []) : ∀ i, i < n → listed.getD i false = true := by
  intro i
  induction i using Nat.strongRecOn with
  | ind i ih =>
    intro hi
    cases hv : listed.getD i false with
    | true => rfl
    | false =>
      exfalso
      have hio : i < ops.size := by omega
      have hmem : i ∈ Region.ready .any ops listed := mem_ready.2 ⟨by
          have hl : i < listed.size := by omega
          simpa [Array.getD, hl] using hv, ops[i], Array.getElem?_eq_getElem hio, fun e he hb => by
          have h1 := hback i ops[i] hi (Array.getElem?_eq_getElem hio) e he hb
          exact ih e.on h1 (by omega)⟩
      rw [h] at hmem
      cases hmem
theorem all_listed {ops : Array Oper} {n : Nat} {listed : Array Bool} (inv : HeadInv .any ops n listed) (h : ∀ i, i < n → listed.getD i false = true) (hn : n ≤ ops.size) : listed = (List.replicate n true ++ List.replicate (ops.size - n) false).toArray := by
  apply Array.ext_getElem?
  intro i
  have e : (List.replicate n true ++ List.replicate (ops.size - n) false).toArray[i]? = (List.replicate n true ++ List.replicate (ops.size - n) false)[i]? := List.getElem?_toArray ..
  rw [e]
  clear e
  by_cases hi : i < n
  · have h1 := h i hi
    have hl : i < listed.size := by rw [inv.size]; omega
    rw [List.getElem?_append_left (by simpa using hi), List.getElem?_replicate, if_pos hi, Array.getElem?_eq_getElem hl]
    simp [Array.getD, hl] at h1
    rw [h1]
  · by_cases hi2 : i < ops.size
    · have h1 := inv.tail i (by omega) hi2
      have hl : i < listed.size := by rw [inv.size]; omega
      rw [List.getElem?_append_right (by simp; omega), List.getElem?_replicate, if_pos (by simp; omega), Array.getElem?_eq_getElem hl]
      simp [Array.getD, hl] at h1
      rw [h1]
    · rw [Array.getElem?_eq_none (by rw [inv.size]; omega), List.getElem?_eq_none (by simp; omega)]

/-- The order of what stands behind the head. -/
def tailB (ops : Array Oper) (n : Nat) : Bool :=
  if n == ops.size then true else
  decide (n < ops.size) && Region.sinkB .any ops n && Region.chainB .any ops n && Region.seqB .any ops (ops.size - n) n (List.replicate n true ++ List.replicate (ops.size - n) false).toArray

section
variable {P : Program} {w0 : World} {Γ : Ctx} {N : Nat} {Vs : List Ty} {a0 : Act}
/-- **A region by types.** Its first n operations are told by a derivation in the order of the text; the rest goes in the order of the text. -/
theorem region_ty {id : Nat} {Q : Exit → Act → World → Prop} {l : List Oper} {draw : Bool} (n : Nat) (hm : P.follows .mixedOrders = true) (hB : (regB l.toArray N n && tailB l.toArray n) = true) (hF : Fr N Γ a0 w0)
    (hL : Line P l.toArray w0 Γ (l.take n) Vs)
    (hQ : ∀ a w, Fr N (ext Γ (l.take n) Vs) a w → Below w0.heap.size w0 w → News (l.take n) a → wpList P l.toArray Q (l.drop n) a w) : (Code.region id l.toArray draw).wp P Q a0 w0 := by
  rw [Bool.and_eq_true] at hB
  obtain ⟨hB, hT⟩ := hB
  have hsize : l.toArray.size = l.length := by simp
  have hnl : n ≤ l.toArray.size := by
    unfold tailB at hT
    split at hT
    · rename_i h; simp at h; simp [h]
    · simp only [Bool.and_eq_true, decide_eq_true_eq] at hT; omega
  have hlen : n = (l.take n).length := by simp at hnl ⊢; omega
  have hli : ∀ i, i < n → (l.take n)[i]? = l.toArray[i]? := fun i hi => by simp [hi]
  have hback : ∀ i o, i < n → l.toArray[i]? = some o → ∀ e ∈ o.after, Region.binds .any e = true → e.on < i := fun i o hi ho e he hb => by
    obtain ⟨o', d, ho', _, _, h, _⟩ := regB_at hB hi
    obtain rfl : o = o' := Option.some.inj (ho.symm.trans ho')
    exact h e he hb
  have fin : ∀ (listed : Array Bool) a w, TInv N n (l.take n) Vs a0 w0 listed a w → (∀ i, i < n → listed.getD i false = true) → wpList P l.toArray Q (l.drop n) a w := fun listed a w hI hall => by
    obtain ⟨h1, h2⟩ := hI.all hL hlen hF hall
    exact hQ a w h1 hI.below h2
  cases draw with
  | true =>
    have key : ∀ (f : Nat) (listed : Array Bool) (a : Act) (w : World), HeadInv .any l.toArray n listed → wanting n listed = f → TInv N n (l.take n) Vs a0 w0 listed a w → wpAny P .any l.toArray Q (f + (l.toArray.size - n)) listed a w := by
      intro f
      induction f with
      | zero =>
        intro listed a w hH h0 hI
        have hall := wanting_zero h0
        have hdl : (l.drop n).length = l.toArray.size - n := by simp
        have e := all_listed hH hall hnl
        have hseq : Region.seqB .any l.toArray (l.toArray.size - n) n listed = true := by
          unfold tailB at hT
          split at hT
          · rename_i h
            have hz : n = l.toArray.size := by simpa using h
            have h2 : l.toArray.size - n = 0 := by omega
            rw [h2]
            simp only [Region.seqB, List.isEmpty_iff]
            unfold Region.ready
            rw [List.filter_eq_nil_iff]
            intro i hi
            have hi' := List.mem_range.1 hi
            have h3 := hall i (by omega)
            have hil : i < listed.size := by rw [hH.size]; exact hi'
            simp [Array.getD, hil] at h3 ⊢
            simp [h3]
          · simp only [Bool.and_eq_true] at hT
            rw [e]; exact hT.2
        have := wpAny_of_seq (md := .any) (Q' := Q) (l.drop n) n listed a w (fun j => by simp [List.getElem?_drop]) (by rw [hdl]; exact hseq) (fin listed a w hI hall)
        rw [Nat.zero_add]
        rwa [hdl] at this
      | succ f ih =>
        intro listed a w hH h0 hI
        rw [show f + 1 + (l.toArray.size - n) = (f + (l.toArray.size - n)) + 1 by omega]
        have hex : ∃ i, i < n ∧ listed.getD i true = false := by
          refine Classical.byContradiction fun hno => ?_
          have hz : wanting n listed = 0 := by
            unfold wanting
            rw [List.length_eq_zero_iff, List.filter_eq_nil_iff]
            intro i hi
            have hi' := List.mem_range.1 hi
            have hl : i < listed.size := by rw [hH.size]; omega
            have h1 : ¬ listed.getD i true = false := fun h => hno ⟨i, hi', h⟩
            simp [Array.getD, hl] at h1 ⊢
            exact h1
          omega
        obtain ⟨i0, hi0, hun0⟩ := hex
        refine ⟨fun hr => ?_, fun i hi => ?_⟩
        · exfalso
          have := ready_head hback hnl hH.size hr i0 hi0
          rw [getD_both hun0] at this
          cases this
        · obtain ⟨h1, o, ho, h2⟩ := mem_ready.1 hi
          have hin : i < n := Nat.lt_of_not_le fun h => by
            have hio := (Array.getElem?_eq_some_iff.1 ho).1
            unfold tailB at hT
            split at hT
            · rename_i h'; simp at h'; omega
            · simp only [Bool.and_eq_true, decide_eq_true_eq] at hT
              exact tail_waits hT.1.1.2 hT.1.2 hT.1.1.1 hH _ i0 rfl hi0 hun0 i h hi
          have hil : i < listed.size := by rw [hH.size]; omega
          have h3 := TInv.step hB hli hL hF hI hH.size hH.closed hin ho (getD_both h1) h2 (wpAny P .any l.toArray Q (f + (l.toArray.size - n)) (listed.setIfInBounds i true)) Q (fun a' w' hI' => by
            refine ih _ a' w' (hH.set hi hin) ?_ hI'
            have := wanting_set hin hil (getD_both h1)
            omega)
          unfold wpOp
          simp only [ho]
          split
          · rename_i hw
            rw [if_pos hw] at h3
            exact .inl h3
          · rename_i hw
            rw [if_neg hw] at h3
            exact h3
    have inv0 : HeadInv .any l.toArray n (Array.replicate l.toArray.size false) :=
      ⟨by simp, fun j oj _ hl => (by rw [getD_replicate_false] at hl; cases hl), fun t _ ht => getD_in (by simpa using ht) (getD_replicate_false _ _)⟩
    have h0 : wanting n (Array.replicate l.toArray.size false) = n := by
      unfold wanting
      rw [List.filter_eq_self.2 (fun i _ => by rw [getD_replicate_false]; rfl), List.length_range]
    refine wp_region_any hm ?_
    have := key n _ a0 w0.drew inv0 h0 (TInv.start hF (Below.refl _ _).drew _)
    rw [show n + (l.toArray.size - n) = l.toArray.size by omega] at this
    exact this
  | false =>
    have key : ∀ (f k : Nat) (a : Act) (w : World), k + f = n → TInv N n (l.take n) Vs a0 w0 ((List.replicate k true ++ List.replicate (l.toArray.size - k) false).toArray) a w → wpList P l.toArray Q (l.drop k) a w := by
      intro f
      induction f with
      | zero =>
        intro k a w hk hI
        obtain rfl : k = n := by omega
        refine fin _ a w hI (fun i hi => ?_)
        simp [Array.getD, hi]
        omega
      | succ f ih =>
        intro k a w hk hI
        have hkn : k < n := by omega
        have hkl : k < l.length := by omega
        have hdrop : l.drop k = l[k] :: l.drop (k + 1) := by rw [List.drop_eq_getElem_cons hkl]
        have getD_k : ∀ m j, m ≤ l.toArray.size → (List.replicate m true ++ List.replicate (l.toArray.size - m) false).toArray.getD j false = decide (j < m) := fun m j hm => by
          by_cases hj : j < m
          · simp [Array.getD, hj]; omega
          · simp [Array.getD, List.getElem_append, hj]
        have ho : l.toArray[k]? = some l[k] := by simp [hkl]
        have hset : (List.replicate k true ++ List.replicate (l.toArray.size - k) false).toArray.setIfInBounds k true = (List.replicate (k + 1) true ++ List.replicate (l.toArray.size - (k + 1)) false).toArray := by
          apply Array.ext_getElem?
          intro j
          rw [show l.toArray.size - k = (l.toArray.size - (k + 1)) + 1 by omega, List.replicate_succ, List.replicate_succ']
          simp only [List.setIfInBounds_toArray, List.getElem?_toArray, List.append_assoc, List.singleton_append]
          rw [List.set_append_right _ _ (by simp)]
          simp
        rw [hdrop]
        refine wpList_step fun K hK => ?_
        refine TInv.step hB hli hL hF hI (by simp; omega) (fun j oj hj hl e he hb => ?_) hkn ho (by rw [getD_k k k (by omega)]; simp) (fun e he hb => ?_) K Q (fun a' w' hI' => hK a' w' (ih (k + 1) a' w' (by omega) (by rw [← hset]; exact hI')))
        · rw [getD_k k _ (by omega)] at hl ⊢
          simp only [decide_eq_true_eq] at hl ⊢
          have := hback j oj (by omega) hj e he hb
          omega
        · rw [getD_k k _ (by omega)]
          simp only [decide_eq_true_eq]
          exact hback k _ hkn ho e he hb
    refine wp_region_lit ?_
    have := key n 0 a0 w0 (by omega) (by
      have e : (List.replicate 0 true ++ List.replicate (l.toArray.size - 0) false).toArray = Array.replicate l.toArray.size false := by simp
      rw [e]
      exact TInv.start hF (Below.refl _ _) _)
    simpa using this
end
end Go.Proofs.Ytbjlmhbpcopfbaa

/- Regions by types: the lines of single operations; the walk of a function by types: entering, branches, loops, returning. -/
namespace Go.Proofs.Ytbjlmhbpcopfbaa
open Go.RowKit

/-- What Γ says of an operand. -/
def OpT (Γ : Ctx) : Operand → Ty → Prop
  | .tmp s, τ => look Γ s = some τ
  | .const v, τ => Ty.ex v = τ
  | .func f, τ => Ty.ex (.func (.func f) #[] #[]) = τ
  | .global g, τ => Ty.ex (.pointer (some ⟨g, 0, none⟩)) = τ

/-- A call: it returns a value of type V; what lay there lies there. -/
def Ret (P : Program) (f : FuncId) (args : Array Value) (w : World) (V : Ty) : Prop := Calls P f args w fun e w' => ∃ u, e = .returned u ∧ V.p w' u ∧ Below w.heap.size w w'

section
variable {P : Program} {w0 : World} {Γ : Ctx} {o : Oper} {V : Ty}
theorem Ret.mono {f : FuncId} {args : Array Value} {w : World} {τ σ : Ty} (h : Ret P f args w τ) (hc : ∀ w' v, τ.p w' v → σ.p w' v) : Ret P f args w σ :=
  Calls.mono h fun _ _ ⟨u, h1, h2, h3⟩ => ⟨u, h1, hc _ _ h2, h3⟩
theorem Ret.of {f : FuncId} {args : Array Value} {w : World} {v : Value} (h : Calls P f args w fun e w' => e = .returned v ∧ Below w.heap.size w w') : Ret P f args w (Ty.ex v) :=
  Calls.mono h fun _ _ ⟨h1, h2⟩ => ⟨v, h1, rfl, h2⟩
theorem Ret.of_eq {f : FuncId} {args : Array Value} {w : World} {v : Value} (h : Calls P f args w fun e w' => e = .returned v ∧ w = w') : Ret P f args w (Ty.ex v) :=
  Calls.mono h fun _ _ ⟨h1, h2⟩ => ⟨v, h1, rfl, h2 ▸ Below.refl _ _⟩
/-- What an operation may know: what Γ says of its operands. -/
def SeesO (Γ : Ctx) (o : Oper) (a : Act) (w : World) : Prop := ∀ x τ, x ∈ o.op.operands.toList → OpT Γ x τ → ∃ v, a.eval x = v ∧ τ.p w v
theorem sees_of {a : Act} {w : World} (h : ∀ (s : Nat) (τ : Ty), s ∈ Oper.reads o → look Γ s = some τ → ∃ v, a.tmps[s]? = some v ∧ τ.p w v) : SeesO Γ o a w := by
  intro x τ hx hT
  cases x with
  | tmp s =>
    obtain ⟨v, h1, h2⟩ := h s τ (by unfold Oper.reads; exact List.mem_filterMap.2 ⟨.tmp s, hx, rfl⟩) hT
    exact ⟨v, by simp [Act.eval, Array.getD_eq_getD_getElem?, h1], h2⟩
  | const v => exact ⟨v, rfl, by rw [← show Ty.ex v = τ from hT]; rfl⟩
  | func f => exact ⟨_, rfl, by rw [← show Ty.ex _ = τ from hT]; rfl⟩
  | «global» g => exact ⟨_, rfl, by rw [← show Ty.ex _ = τ from hT]; rfl⟩
theorem OpOk.val (h : ∀ (a : Act) (w : World), Below w0.heap.size w0 w → SeesO Γ o a w → ∃ v, V.p w v ∧ (execOp a.eval o).run P w = .ok (.value v) w) : OpOk P w0 Γ o V := by
  intro a w K Q hb hs hK
  obtain ⟨v, h1, h2⟩ := h a w hb (sees_of hs)
  unfold Oper.wp
  rw [h2]
  exact hK v w h1 (Below.refl _ _)
theorem OpOk.new (h : ∀ (a : Act) (w : World), Below w0.heap.size w0 w → SeesO Γ o a w → ∃ v w', V.p w' v ∧ Below w.heap.size w w' ∧ (execOp a.eval o).run P w = .ok (.value v) w') : OpOk P w0 Γ o V := by
  intro a w K Q hb hs hK
  obtain ⟨v, w', h1, h2, h3⟩ := h a w hb (sees_of hs)
  unfold Oper.wp
  rw [h3]
  exact hK v w' h1 h2
theorem OpOk.call (h : ∀ (a : Act) (w : World), Below w0.heap.size w0 w → SeesO Γ o a w → ∃ f args, (execOp a.eval o).run P w = .ok (.enter f args) w ∧ Ret P f args w V) : OpOk P w0 Γ o V := by
  intro a w K Q hb hs hK
  obtain ⟨f, args, h1, h2⟩ := h a w hb (sees_of hs)
  unfold Oper.wp
  rw [h1]
  refine Calls.mono h2 fun e w' ⟨u, h3, h4, h5⟩ => ?_
  subst h3
  exact hK u w' h4 h5
theorem OpOk.conv {τ σ : Ty} (h : OpOk P w0 Γ o τ) (hc : ∀ w v, τ.p w v → σ.p w v) : OpOk P w0 Γ o σ :=
  fun a w K Q hb hs hK => h a w K Q hb hs fun v w' h1 h2 => hK v w' (hc _ _ h1) h2

/-! ### Lines -/
theorem cMove {x : Operand} {τ : Ty} (ho : o.op = .move x) (hx : OpT Γ x τ) : OpOk P w0 Γ o τ :=
  .val fun a w _ hs => by
    obtain ⟨v, h1, h2⟩ := hs x τ (by simp [ho, Op.operands]) hx
    exact ⟨v, h2, by unfold execOp; simp [ho, h1]⟩
theorem cAssign {x : Operand} {τ : Ty} (ho : o.op = .assign x) (hx : OpT Γ x τ) : OpOk P w0 Γ o τ :=
  .val fun a w _ hs => by
    obtain ⟨v, h1, h2⟩ := hs x τ (by simp [ho, Op.operands]) hx
    exact ⟨v, h2, by unfold execOp; simp [ho, h1]⟩
theorem cPickT {c x y : Operand} {τ : Ty} (ho : o.op = .pick c x y) (hc : OpT Γ c (Ty.ex (.bool true))) (hx : OpT Γ x τ) : OpOk P w0 Γ o τ :=
  .val fun a w _ hs => by
    obtain ⟨v, h1, h2⟩ := hs x τ (by simp [ho, Op.operands]) hx
    obtain ⟨b, h3, h4⟩ := hs c _ (by simp [ho, Op.operands]) hc
    have h4 : b = .bool true := h4
    exact ⟨v, h2, by unfold execOp; simp [ho, h1, h3, h4, asBool]⟩
theorem cPickF {c x y : Operand} {τ : Ty} (ho : o.op = .pick c x y) (hc : OpT Γ c (Ty.ex (.bool false))) (hy : OpT Γ y τ) : OpOk P w0 Γ o τ :=
  .val fun a w _ hs => by
    obtain ⟨v, h1, h2⟩ := hs y τ (by simp [ho, Op.operands]) hy
    obtain ⟨b, h3, h4⟩ := hs c _ (by simp [ho, Op.operands]) hc
    have h4 : b = .bool false := h4
    exact ⟨v, h2, by unfold execOp; simp [ho, h1, h3, h4, asBool]⟩
theorem cNot {t : TypeId} {x : Operand} {b : Bool} (ho : o.op = .unOp .not t x) (hx : OpT Γ x (Ty.ex (.bool b))) : OpOk P w0 Γ o (Ty.ex (.bool (!b))) :=
  .val fun a w _ hs => by
    obtain ⟨v, h1, h2⟩ := hs x _ (by simp [ho, Op.operands]) hx
    have h2 : v = .bool b := h2
    exact ⟨_, rfl, by unfold execOp; simp [ho, h1, h2, Op.unary]⟩
/-- An operator on two values that are known. -/
theorem cBin {op : BinOp} {t t2 : TypeId} {x y : Operand} {vx vy v : Value} (ho : o.op = .binOp op t x y t2) (hx : OpT Γ x (Ty.ex vx)) (hy : OpT Γ y (Ty.ex vy))
    (hr : ∀ w : World, (do eqGuard op t x y vx vy; binOp op t vx vy : Sem Value).run P w = .ok v w) : OpOk P w0 Γ o (Ty.ex v) :=
  .val fun a w _ hs => by
    obtain ⟨u, h1, h2⟩ := hs x _ (by simp [ho, Op.operands]) hx
    obtain ⟨u', h3, h4⟩ := hs y _ (by simp [ho, Op.operands]) hy
    have h2 : u = vx := h2
    have h4 : u' = vy := h4
    subst h2 h4
    refine ⟨_, rfl, ?_⟩
    have := hr w
    unfold execOp
    simp only [ho, h1, h3]
    rw [Sem.run_bind, this]
    rfl
section
variable {t t2 : TypeId} {x y : Operand} {k : IntKind} {m n : Int}
theorem cLss (ho : o.op = .binOp .lss t x y t2) (hx : OpT Γ x (Ty.ex (.int k m))) (hy : OpT Γ y (Ty.ex (.int k n))) : OpOk P w0 Γ o (Ty.ex (.bool (decide (m < n)))) :=
  cBin ho hx hy fun w => by simp [eqGuard, binOp, Op.intCmp]
theorem cLeq (ho : o.op = .binOp .leq t x y t2) (hx : OpT Γ x (Ty.ex (.int k m))) (hy : OpT Γ y (Ty.ex (.int k n))) : OpOk P w0 Γ o (Ty.ex (.bool (decide (m ≤ n)))) :=
  cBin ho hx hy fun w => by simp [eqGuard, binOp, Op.intCmp]
theorem cGeq (ho : o.op = .binOp .geq t x y t2) (hx : OpT Γ x (Ty.ex (.int k m))) (hy : OpT Γ y (Ty.ex (.int k n))) : OpOk P w0 Γ o (Ty.ex (.bool (decide (n ≤ m)))) :=
  cBin ho hx hy fun w => by simp [eqGuard, binOp, Op.intCmp]
theorem cEql (ho : o.op = .binOp .eql t x y t2) (hx : OpT Γ x (Ty.ex (.int k m))) (hy : OpT Γ y (Ty.ex (.int k n))) : OpOk P w0 Γ o (Ty.ex (.bool (decide (m = n)))) :=
  cBin ho hx hy fun w => by simp [eqGuard, binOp, Op.intCmp]; rfl
theorem cAddW (ho : o.op = .binOp .add t x y t2) (hx : OpT Γ x (Ty.ex (.int k m))) (hy : OpT Γ y (Ty.ex (.int k n))) : OpOk P w0 Γ o (Ty.ex (.int k (k.wrap (m + n)))) :=
  cBin ho hx hy fun w => by simp [eqGuard, binOp, Op.intArith]
theorem cSubW (ho : o.op = .binOp .sub t x y t2) (hx : OpT Γ x (Ty.ex (.int k m))) (hy : OpT Γ y (Ty.ex (.int k n))) : OpOk P w0 Γ o (Ty.ex (.int k (k.wrap (m - n)))) :=
  cBin ho hx hy fun w => by simp [eqGuard, binOp, Op.intArith]
/-- The sum, where it is known to be r. -/
theorem cAdd {r : Int} (ho : o.op = .binOp .add t x y t2) (hx : OpT Γ x (Ty.ex (.int .i64 m))) (hy : OpT Γ y (Ty.ex (.int .i64 n))) (hr : m + n = r ∧ -9223372036854775808 ≤ r ∧ r ≤ 9223372036854775807) : OpOk P w0 Γ o (Ty.ex (.int .i64 r)) := by
  have h := cAddW (P := P) (w0 := w0) ho hx hy
  rwa [IntWalk.i64_in _ (by omega), hr.1] at h
theorem cSub {r : Int} (ho : o.op = .binOp .sub t x y t2) (hx : OpT Γ x (Ty.ex (.int .i64 m))) (hy : OpT Γ y (Ty.ex (.int .i64 n))) (hr : m - n = r ∧ -9223372036854775808 ≤ r ∧ r ≤ 9223372036854775807) : OpOk P w0 Γ o (Ty.ex (.int .i64 r)) := by
  have h := cSubW (P := P) (w0 := w0) ho hx hy
  rwa [IntWalk.i64_in _ (by omega), hr.1] at h
end
/-- Slices. -/
def IsSl (τ : Ty) (n : Nat) : Prop := ∀ w v, τ.p w v → ∃ A c, v = .slice A n c
/-- A tuple's types. -/
def All2 (w : World) : List Value → List Ty → Prop
  | [], [] => True
  | v :: vs, τ :: τs => τ.p w v ∧ All2 w vs τs
  | _, _ => False
theorem All2.st {w w' : World} {S : List Nat} (k : Keeps S w w') : ∀ {vs : List Value} {τs : List Ty}, All2 w vs τs → (∀ τ ∈ τs, Apart w S τ.el) → All2 w' vs τs
  | [], [], _, _ => trivial
  | v :: vs, τ :: τs, h, hA => ⟨τ.st h.1 k (hA τ (by simp)), All2.st k h.2 fun σ hσ => hA σ (by simp [hσ])⟩
  | [], _ :: _, h, _ => h.elim
  | _ :: _, [], h, _ => h.elim
theorem All2.at_ {w : World} : ∀ {vs : List Value} {τs : List Ty} {i : Nat} {τ : Ty}, All2 w vs τs → τs[i]? = some τ → ∃ v, vs[i]? = some v ∧ τ.p w v
  | v :: vs, σ :: τs, 0, τ, h, hi => by
    simp only [List.getElem?_cons_zero, Option.some.injEq] at hi
    subst hi
    exact ⟨v, rfl, h.1⟩
  | v :: vs, σ :: τs, i + 1, τ, h, hi => by
    obtain ⟨u, h1, h2⟩ := All2.at_ (i := i) h.2 (by simpa using hi)
    exact ⟨u, by simpa using h1, h2⟩
  | [], [], i, τ, _, hi => by simp at hi
  | [], _ :: _, _, _, h, _ => h.elim
  | _ :: _, [], _, _, h, _ => h.elim
theorem apart_any {w : World} {S : List Nat} {τs : List Ty} (hA : Apart w S fun t => τs.any fun τ => τ.el t) : ∀ τ ∈ τs, Apart w S τ.el := fun τ hτ b hb hl => by
  obtain ⟨cs, t, fr, h1, h2⟩ := hA b hb hl
  refine ⟨cs, t, fr, h1, ?_⟩
  simp only [List.any_eq_false] at h2
  simpa using h2 τ hτ
def Ty.tup (τs : List Ty) : Ty := ⟨fun w v => ∃ vs : List Value, v = .tuple vs.toArray ∧ All2 w vs τs, fun t => τs.any fun τ => τ.el t, fun ⟨vs, h1, h2⟩ k hA => ⟨vs, h1, h2.st k (apart_any hA)⟩⟩
theorem cExtract {x : Operand} {τs : List Ty} {i : Nat} {τ : Ty} (ho : o.op = .extract x i) (hx : OpT Γ x (Ty.tup τs)) (hi : τs[i]? = some τ) : OpOk P w0 Γ o τ :=
  .val fun a w _ hs => by
    obtain ⟨v, h1, vs, h2, h3⟩ := hs x _ (by simp [ho, Op.operands]) hx
    obtain ⟨u, h4, h5⟩ := h3.at_ hi
    refine ⟨u, h5, ?_⟩
    unfold execOp
    simp [ho, h1, h2, Instr.extract, h4]

/-! ### Calls -/
def Enters (P : Program) (f : FuncId) : Prop := ∀ (args : Array Value) (w : World), (callFunc f args).run P w = .ok (.enter f args) w
structure Fn0 (P : Program) (f : FuncId) (ρ : Ty) : Prop where
  en : Enters P f
  ret : ∀ w, Ret P f #[] w ρ
structure Fn1 (P : Program) (f : FuncId) (τ ρ : Ty) : Prop where
  en : Enters P f
  ret : ∀ w v, τ.p w v → Ret P f #[v] w ρ
structure Fn2 (P : Program) (f : FuncId) (τ σ ρ : Ty) : Prop where
  en : Enters P f
  ret : ∀ w v u, τ.p w v → σ.p w u → Ret P f #[v, u] w ρ
theorem exec_go {f : FuncId} {ats : Array TypeId} {xs : Array Operand} (ρ : Operand → Value) (ho : o.op = .call { callee := .value (.func f), args := xs, argTypes := ats }) (hf : ρ (.func f) = .func (.func f) #[] #[]) : execOp ρ o = callFunc f (xs.map ρ) := by
  unfold execOp
  simp only [ho, resolve, hf]
  simp [Deferred.ofValue, invoke]
theorem cCall0 {f : FuncId} {ats : Array TypeId} {ρ : Ty} (ho : o.op = .call { callee := .value (.func f), args := #[], argTypes := ats }) (hc : Fn0 P f ρ) : OpOk P w0 Γ o ρ :=
  .call fun a w _ _ => ⟨f, #[], by rw [exec_go a.eval ho rfl]; simpa using hc.en #[] w, hc.ret w⟩
theorem cCall1 {f : FuncId} {ats : Array TypeId} {x : Operand} {τ ρ : Ty} (ho : o.op = .call { callee := .value (.func f), args := #[x], argTypes := ats }) (hx : OpT Γ x τ) (hc : Fn1 P f τ ρ) : OpOk P w0 Γ o ρ :=
  .call fun a w _ hs => by
    obtain ⟨v, h1, h2⟩ := hs x _ (by simp [ho, Op.operands, Call.operands]) hx
    refine ⟨f, #[v], ?_, hc.ret w v h2⟩
    rw [exec_go a.eval ho rfl]
    simp only [List.map_toArray, List.map_cons, List.map_nil, h1]
    exact hc.en _ w
theorem cCall2 {f : FuncId} {ats : Array TypeId} {x y : Operand} {τ σ ρ : Ty} (ho : o.op = .call { callee := .value (.func f), args := #[x, y], argTypes := ats }) (hx : OpT Γ x τ) (hy : OpT Γ y σ) (hc : Fn2 P f τ σ ρ) : OpOk P w0 Γ o ρ :=
  .call fun a w _ hs => by
    obtain ⟨v, h1, h2⟩ := hs x _ (by simp [ho, Op.operands, Call.operands]) hx
    obtain ⟨u, h3, h4⟩ := hs y _ (by simp [ho, Op.operands, Call.operands]) hy
    refine ⟨f, #[v, u], ?_, hc.ret w v u h2 h4⟩
    rw [exec_go a.eval ho rfl]
    simp only [List.map_toArray, List.map_cons, List.map_nil, h1, h3]
    exact hc.en _ w
/-- A call whose contract leans on what lay in w0. -/
theorem cCallW1 {f : FuncId} {ats : Array TypeId} {x : Operand} {τ ρ : Ty} (ho : o.op = .call { callee := .value (.func f), args := #[x], argTypes := ats }) (hx : OpT Γ x τ) (he : Enters P f) (hc : ∀ w v, Below w0.heap.size w0 w → τ.p w v → Ret P f #[v] w ρ) : OpOk P w0 Γ o ρ :=
  .call fun a w hb hs => by
    obtain ⟨v, h1, h2⟩ := hs x _ (by simp [ho, Op.operands, Call.operands]) hx
    refine ⟨f, #[v], ?_, hc w v hb h2⟩
    rw [exec_go a.eval ho rfl]
    simp only [List.map_toArray, List.map_cons, List.map_nil, h1]
    exact he _ w
theorem cCallW2 {f : FuncId} {ats : Array TypeId} {x y : Operand} {τ σ ρ : Ty} (ho : o.op = .call { callee := .value (.func f), args := #[x, y], argTypes := ats }) (hx : OpT Γ x τ) (hy : OpT Γ y σ) (he : Enters P f) (hc : ∀ w v u, Below w0.heap.size w0 w → τ.p w v → σ.p w u → Ret P f #[v, u] w ρ) : OpOk P w0 Γ o ρ :=
  .call fun a w hb hs => by
    obtain ⟨v, h1, h2⟩ := hs x _ (by simp [ho, Op.operands, Call.operands]) hx
    obtain ⟨u, h3, h4⟩ := hs y _ (by simp [ho, Op.operands, Call.operands]) hy
    refine ⟨f, #[v, u], ?_, hc w v u hb h2 h4⟩
    rw [exec_go a.eval ho rfl]
    simp only [List.map_toArray, List.map_cons, List.map_nil, h1, h3]
    exact he _ w
end

/-! ### The walk of a function -/
def ctx0 : Nat → List Ty → Ctx
  | _, [] => []
  | k, τ :: τs => (k, τ) :: ctx0 (k + 1) τs
theorem ctx0_look : ∀ (τs : List Ty) (k s : Nat) (τ : Ty), look (ctx0 k τs) s = some τ → k ≤ s ∧ τs[s - k]? = some τ
  | [], k, s, τ, h => by cases h
  | σ :: τs, k, s, τ, h => by
    by_cases hks : k = s
    · subst hks
      have h' : look ((k, σ) :: ctx0 (k + 1) τs) k = some τ := h
      rw [look_same] at h'
      exact ⟨Nat.le_refl _, by simpa using h'⟩
    · have h' : look ((k, σ) :: ctx0 (k + 1) τs) s = some τ := h
      rw [look_ne _ _ hks] at h'
      obtain ⟨h1, h2⟩ := ctx0_look τs (k + 1) s τ h'
      refine ⟨by omega, ?_⟩
      rw [show s - k = (s - (k + 1)) + 1 by omega, List.getElem?_cons_succ]
      exact h2
section
variable {P : Program} {Γ : Ctx} {N : Nat} {a : Act} {w : World} {Q : Exit → Act → World → Prop}
/-- A function is entered. -/
theorem enter_ty {f : FuncId} {fn : Func} {c : Code} {args : List Value} {R : Ending → World → Prop} (N : Nat) (τs : List Ty) (hf : P.funcs[f]? = some fn) (hb : fn.body = some c) (hN : (fn.ntmps == N && decide (args.length ≤ N)) = true) (hA : All2 w args τs)
    (h : ∀ a, Fr N (ctx0 0 τs) a w → c.wp P (bodyPost P fn R) a w) : Calls P f args.toArray w R := by
  simp only [Bool.and_eq_true, beq_iff_eq, decide_eq_true_eq] at hN
  refine calls_of_wp hf hb (h _ ⟨?_, rfl, fun s τ hs => ?_⟩)
  · simp; omega
  · obtain ⟨_, h1⟩ := ctx0_look τs 0 s τ hs
    obtain ⟨v, h2, h3⟩ := hA.at_ h1
    simp only [Nat.sub_zero] at h2
    refine ⟨v, ?_, h3⟩
    have hl : s < args.length := (List.getElem?_eq_some_iff.1 h2).1
    rw [Array.getElem?_append_left (by simpa using hl)]
    simpa using h2
/-- A branch. -/
theorem cond_ty {s : Nat} {b : Bool} {x y : Code} (hF : Fr N Γ a w) (hs : look Γ s = some (Ty.ex (.bool b))) (ht : b = true → x.wp P Q a w) (hf : b = false → y.wp P Q a w) : (Code.cond (.tmp s) x y).wp P Q a w :=
  wp_cond_split (hF.getEx hs) ht hf
theorem cond_t {s : Nat} {x y : Code} (hF : Fr N Γ a w) (hs : look Γ s = some (Ty.ex (.bool true))) (h : x.wp P Q a w) : (Code.cond (.tmp s) x y).wp P Q a w := wp_cond_true (hF.getEx hs) h
theorem cond_f {s : Nat} {x y : Code} (hF : Fr N Γ a w) (hs : look Γ s = some (Ty.ex (.bool false))) (h : y.wp P Q a w) : (Code.cond (.tmp s) x y).wp P Q a w := wp_cond_false (hF.getEx hs) h
/-- A loop: I m holds at the head; m goes down. -/
theorem loop_ty {c : Code} (I : Nat → Act → World → Prop) (m0 : Nat) (h0 : I m0 a w) (round : ∀ m a w, I m a w → c.wp P (Exit.then (fun a' w' => ∃ m', m' < m ∧ I m' a' w') Q) a w) : (Code.loop c).wp P Q a w := by
  intro b k cs
  have key : ∀ (m : Nat) (a : Act) (w : World), I m a w → ∃ e a' w', Q e a' w' ∧ Arrives P (lone (b.at a (.code c :: .inLoop c :: k)) cs w) b k cs e a' w' := by
    intro m
    induction m using Nat.strongRecOn with
    | _ m ih =>
      intro a w hI
      obtain ⟨e, a₁, w₁, hq, harr⟩ := round m a w hI b (.inLoop c :: k) cs
      cases e with
      | normal =>
        obtain ⟨m', hlt, hI₁⟩ := hq
        obtain ⟨e₂, a₂, w₂, hq₂, harr₂⟩ := ih m' hlt a₁ w₁ hI₁
        exact ⟨e₂, a₂, w₂, hq₂, .of_steps (Steps.trans harr (.one step_inLoop)) harr₂⟩
      | exit id => exact ⟨_, a₁, w₁, hq, .pass (x := .inLoop c) rfl (fun _ _ => .inl (by simp)) harr⟩
      | goto l => exact ⟨_, a₁, w₁, hq, .pass (x := .inLoop c) rfl (fun _ _ => .inl (by simp)) harr⟩
      | ret => exact ⟨_, a₁, w₁, hq, .pass (x := .inLoop c) rfl (fun _ _ => .inl (by simp)) harr⟩
      | panic ch => exact ⟨_, a₁, w₁, hq, .pass (x := .inLoop c) rfl (fun _ _ => .inl (by simp)) harr⟩
      | outgrown => exact ⟨_, a₁, w₁, hq, .pass (x := .inLoop c) rfl (fun _ _ => .inl (by simp)) harr⟩
  obtain ⟨e, a', w', hq, harr⟩ := key m0 a w h0
  exact ⟨e, a', w', hq, .of_steps (.one step_loop) harr⟩
/-- A result in a slot. -/
theorem ret1 {fn : Func} {R : Ending → World → Prop} {s : Nat} {τ : Ty} (hF : Fr N Γ a w) (hr : fn.results = #[.tmp s]) (hs : look Γ s = some τ) (h : ∀ v, τ.p w v → R (.returned v) w) : bodyPost P fn R .ret a w := by
  obtain ⟨v, h1, h2⟩ := hF.val s τ hs
  refine bodyPost_ret (v := v) ?_ hF.defers (h v h2)
  simp [results, hr, h1]
theorem ret2 {fn : Func} {R : Ending → World → Prop} {s s2 : Nat} {τ τ2 : Ty} (hF : Fr N Γ a w) (hr : fn.results = #[.tmp s, .tmp s2]) (hs : look Γ s = some τ) (hs2 : look Γ s2 = some τ2) (h : ∀ v u, τ.p w v → τ2.p w u → R (.returned (.tuple #[v, u])) w) : bodyPost P fn R .ret a w := by
  obtain ⟨v, h1, h2⟩ := hF.val s τ hs
  obtain ⟨u, h3, h4⟩ := hF.val s2 τ2 hs2
  refine bodyPost_ret (v := .tuple #[v, u]) ?_ hF.defers (h v u h2 h4)
  simp [results, hr, h1, h3]
/-- A region all of whose operations are lines. -/
theorem reg_all {id : Nat} {l : List Oper} {draw : Bool} {Vs : List Ty} (hF : Fr N Γ a w) (hL : Line P l.toArray w Γ l Vs) (hm : P.follows .mixedOrders = true) (hB : (regB l.toArray N l.length && tailB l.toArray l.length) = true)
    (hQ : ∀ a' w', Fr N (ext Γ l Vs) a' w' → Below w.heap.size w w' → News l a' → Q .normal a' w') : (Code.region id l.toArray draw).wp P Q a w :=
  region_ty l.length hm hB hF (by rw [List.take_length]; exact hL) (fun a' w' h1 h2 h3 => by
    rw [List.take_length] at h1 h3
    rw [List.drop_length]
    exact hQ a' w' h1 h2 h3)
end
end Go.Proofs.Ytbjlmhbpcopfbaa

/- Arrays of bytes as values: an element, ==; a sum as a list of thirty-two bytes. -/
namespace Go.Proofs.Ytbjlmhbpcopfbaa
open Go.RowKit

def u8s (l : List Nat) : Array Value := (l.map bv).toArray
theorem u8s_size (l : List Nat) : (u8s l).size = l.length := by simp [u8s]
theorem u8s_one (l : List Nat) : (u8s l).all (·.oneCell') = true := by
  unfold u8s; rw [Array.all_eq_true_iff_forall_mem]; intro v hv; simp at hv; obtain ⟨x, _, rfl⟩ := hv; rfl
theorem u8s_get {l : List Nat} {j : Nat} (h : j < l.length) : (u8s l)[j]? = some (.int .u8 ((l.getD j 0 : Nat) : Int)) := by
  simp [u8s, bv, List.getElem?_map, List.getElem?_eq_getElem h, List.getD]
theorem u8s_set {l : List Nat} {j x : Nat} : (u8s l).setIfInBounds j (.int .u8 (x : Int)) = u8s (l.set j x) := by
  unfold u8s
  rw [List.setIfInBounds_toArray, List.map_set]
  rfl
section
variable {P : Program}
/-- An element of an array by value. -/
theorem run_index_arr (w : World) (t e : TypeId) (n : Nat) (cs : Array Value) (k : IntKind) (i : Nat) (v : Value) (h : P.underlying t = some (.array n e)) (ha : ∀ w, (isAgg e).run P w = .ok false w)
    (hz : ∀ w, (Go.sizeOf e).run P w = .ok 1 w) (hi : i < n) (hv : cs[i]? = some v) : (Instr.index t (.agg cs) (.int k (i : Int))).run P w = .ok v w := by
  simp [Instr.index, run_underlying h, asIntOf, part, ha, hz, hi, hv]

theorem run_eqItems_bytes (d : Nat) (e : TypeId) (he : P.underlying e = some (.int .u8)) (ha : ∀ w, (isAgg e).run P w = .ok false w) (x y : List Nat) (w : World) : ∀ is : List Nat, (∀ i ∈ is, i < x.length ∧ i < y.length) →
    (Op.eqItems (d + 1) e 1 (u8s x) (u8s y) is).run P w = .ok (is.all fun i => x.getD i 0 == y.getD i 0) w
  | [], _ => by simp [Op.eqItems]
  | i :: is, h => by
    obtain ⟨h1, h2⟩ := h i (by simp)
    have ih := run_eqItems_bytes d e he ha x y w is (fun j hj => h j (by simp [hj]))
    have p1 : (part e (u8s x) (i * 1)).run P w = .ok (.int .u8 ((x.getD i 0 : Nat) : Int)) w := by simp [part, ha, u8s_get h1]
    have p2 : (part e (u8s y) (i * 1)).run P w = .ok (.int .u8 ((y.getD i 0 : Nat) : Int)) w := by simp [part, ha, u8s_get h2]
    have hb : (((x.getD i 0 : Nat) : Int) == ((y.getD i 0 : Nat) : Int)) = (x.getD i 0 == y.getD i 0) := by
      rw [Bool.eq_iff_iff]; simp only [beq_iff_eq]; omega
    simp only [Op.eqItems, Sem.run_bind, p1, p2, Result.andThen_ok, run_equalIn_int w d e .u8 .u8 _ _ he, hb, List.all_cons]
    cases x.getD i 0 == y.getD i 0
    · simp
    · simpa using ih

theorem all_range (x y : List Nat) (n : Nat) (hx : x.length = n) (hy : y.length = n) : ((List.range n).all fun i => x.getD i 0 == y.getD i 0) = decide (x = y) := by
  rw [Bool.eq_iff_iff, List.all_eq_true, decide_eq_true_eq]
  constructor
  · intro h
    apply List.ext_getElem (by omega)
    intro i h1 h2
    have := h i (by simp; omega)
    simpa [List.getD, List.getElem?_eq_getElem h1, List.getElem?_eq_getElem h2] using this
  · rintro rfl i _
    simp

theorem run_equalIn_bytes (d : Nat) (t e : TypeId) (n : Nat) (i : TypeInfo) (ht : P.underlying t = some (.array n e)) (hi : P.info? e = some i) (hc : P.cellsOf e = 1) (he : P.underlying e = some (.int .u8)) (ha : ∀ w, (isAgg e).run P w = .ok false w)
    (x y : List Nat) (hx : x.length = n) (hy : y.length = n) (w : World) : (Op.equalIn (d + 2) t (.agg (u8s x)) (.agg (u8s y))).run P w = .ok (decide (x = y)) w := by
  rw [run_equalIn_array w (d + 1) _ _ ht hi, hc, run_eqItems_bytes d e he ha x y w _ (fun i hi => by simp at hi; omega), all_range x y n hx hy]
theorem run_eql_bytes (t e : TypeId) (n : Nat) (i : TypeInfo) (ht : P.underlying t = some (.array n e)) (hi : P.info? e = some i) (hc : P.cellsOf e = 1) (he : P.underlying e = some (.int .u8)) (ha : ∀ w, (isAgg e).run P w = .ok false w)
    (x y : List Nat) (hx : x.length = n) (hy : y.length = n) (w : World) : (binOp .eql t (.agg (u8s x)) (.agg (u8s y))).run P w = .ok (.bool (decide (x = y))) w := by
  rw [run_eql_struct, run_equalIn_bytes 9998 t e n i ht hi hc he ha x y hx hy w]
  rfl
theorem run_neq_bytes (t e : TypeId) (n : Nat) (i : TypeInfo) (ht : P.underlying t = some (.array n e)) (hi : P.info? e = some i) (hc : P.cellsOf e = 1) (he : P.underlying e = some (.int .u8)) (ha : ∀ w, (isAgg e).run P w = .ok false w)
    (x y : List Nat) (hx : x.length = n) (hy : y.length = n) (w : World) : (binOp .neq t (.agg (u8s x)) (.agg (u8s y))).run P w = .ok (.bool (!decide (x = y))) w := by
  rw [run_neq_struct, run_equalIn_bytes 9998 t e n i ht hi hc he ha x y hx hy w]
  rfl
end

/-- A sum. -/
structure Sm where
  l : List Nat
  len : l.length = 32
  lt : ∀ b ∈ l, b < 256
  deriving DecidableEq
theorem Sm.ext_l {a b : Sm} (h : a.l = b.l) : a = b := by cases a; cases b; cases h; rfl
def Sm.zero : Sm := ⟨List.replicate 32 0, by decide, by decide⟩
instance : Inhabited Sm := ⟨Sm.zero⟩
def Sm.enc (s : Sm) : List Value := s.l.map bv
end Go.Proofs.Ytbjlmhbpcopfbaa

/- Regions by types: slices, sums: what is read out of them; what is appended; steps behind a region's head. -/
namespace Go.Proofs.Ytbjlmhbpcopfbaa
open Go.RowKit

/-- An operand is of type τ: Γ says so, or it is a letter of which that was known in w0. -/
def Has (w0 : World) (Γ : Ctx) (x : Operand) (τ : Ty) : Prop := ∃ σ, OpT Γ x σ ∧ ∀ w v, Below w0.heap.size w0 w → σ.p w v → τ.p w v
theorem Has.t {w0 : World} {Γ : Ctx} {x : Operand} {τ : Ty} (h : OpT Γ x τ) : Has w0 Γ x τ := ⟨τ, h, fun _ _ _ h => h⟩
theorem Has.l {w0 : World} {Γ : Ctx} {x : Operand} {τ : Ty} {v : Value} (h : OpT Γ x (Ty.ex v)) (hv : τ.p w0 v) : Has w0 Γ x τ := ⟨_, h, fun w u hb e => by have e : u = v := e; subst e; exact τ.below hv hb⟩
theorem Has.see {w0 w : World} {Γ : Ctx} {x : Operand} {τ : Ty} {o : Oper} {a : Act} (h : Has w0 Γ x τ) (hs : SeesO Γ o a w) (hx : x ∈ o.op.operands.toList) (hb : Below w0.heap.size w0 w) : ∃ v, a.eval x = v ∧ τ.p w v := by
  obtain ⟨σ, h1, h2⟩ := h
  obtain ⟨v, h3, h4⟩ := hs x σ hx h1
  exact ⟨v, h3, h2 w v hb h4⟩

/-- A slice of n elements, its memory of type e, that reads xs. -/
def SlP (w : World) (e : TypeId) (v : Value) (n : Nat) (xs : List Value) : Prop :=
  ∃ A c, v = .slice A n c ∧ n ≤ c ∧ c ≤ maxLen ∧ (A = none → n = 0 ∧ c = 0) ∧ ∀ (j : Nat) (u : Value), xs[j]? = some u → ∃ g off cs fr, A = some ⟨g, off, none⟩ ∧ w.heap[g]? = some (.cells cs e fr) ∧ cs[off + j]? = some u
theorem keeps_block {w w' : World} {S : List Nat} (k : Keeps S w w') {el : TypeId → Bool} (hA : Apart w S el) {g : Nat} {cs : Array Value} {e : TypeId} {fr : Nat × Nat} (hg : w.heap[g]? = some (.cells cs e fr)) (he : el e = true) : w'.heap[g]? = some (.cells cs e fr) := by
  have hl : g < w.heap.size := (Array.getElem?_eq_some_iff.1 hg).1
  rw [k.block g hl (fun hm => ?_)]
  · exact hg
  · obtain ⟨cs', t, fr', h1, h2⟩ := hA g hm hl
    rw [hg] at h1
    simp only [Option.some.injEq, Obj.cells.injEq] at h1
    rw [← h1.2.1, he] at h2
    cases h2
def Ty.sl (e : TypeId) (n : Nat) (xs : List Value) : Ty := ⟨fun w v => SlP w e v n xs, fun t => t == e, fun ⟨A, c, h1, h2, h3, h4, h5⟩ k hA => ⟨A, c, h1, h2, h3, h4, fun j u hu =>
  let ⟨g, off, cs, fr, h6, h7, h8⟩ := h5 j u hu; ⟨g, off, cs, fr, h6, keeps_block k hA h7 (by simp), h8⟩⟩⟩
theorem Ty.sl_isSl (e : TypeId) (n : Nat) (xs : List Value) : IsSl (Ty.sl e n xs) n := fun _ _ ⟨A, c, h, _⟩ => ⟨A, c, h⟩
theorem SlP.rd {w : World} {e : TypeId} {A : Option Addr} {n c : Nat} {xs : List Value} (h : SlP w e (.slice A n c) n xs) : Rd w A xs := fun j u hu => by
  obtain ⟨A', c', h1, _, _, _, h5⟩ := h
  injection h1 with h1 _ h2
  subst h1
  obtain ⟨g, off, cs, fr, rfl, h6, h7⟩ := h5 j u hu
  exact ⟨_, rfl, by rw [Addr.add_lit, cell_of_row w g (off + j) cs e fr h6]; exact h7⟩
/-- A slice whose memory is of a type unknown. -/
def Ty.rd (n : Nat) (xs : List Value) : Ty := ⟨fun w v => ∃ A c, v = .slice A n c ∧ n ≤ maxLen ∧ (A = none → n = 0) ∧ Rd w A xs, fun _ => true, fun {w w' v S} h k hA => by
  obtain ⟨A, c, h1, h2, h3, h4⟩ := h
  refine ⟨A, c, h1, h2, h3, fun j u hu => ?_⟩
  obtain ⟨ad, rfl, hc⟩ := h4 j u hu
  have hl := World.block_lt_of_cell? w _ hc
  refine ⟨ad, rfl, (World.cell?_of_block (w := w) (k.block _ hl (fun hm => ?_))).trans hc⟩
  obtain ⟨_, _, _, _, h⟩ := hA _ hm hl
  cases h⟩
/-- A segment, by its blocks' age. -/
theorem Seg.sl {w : World} {e : TypeId} {sz n : Nat} {v : Value} {xs : List Value} {S : List Nat} (h : Seg w e sz v n xs S) : SlP w e v n xs := by
  rcases h with ⟨hl, ⟨rfl, rfl, rfl⟩ | ⟨g, off, cap, cs, rfl, rfl, hb, hs, hn, hm, hx⟩⟩
  · have : xs = [] := List.eq_nil_of_length_eq_zero (by simpa using hl)
    subst this
    refine ⟨none, 0, rfl, Nat.le_refl _, by simp [maxLen], fun _ => ⟨rfl, rfl⟩, fun j u hu => ?_⟩
    simp at hu
  · refine ⟨_, cap, rfl, hn, hm, fun h => (by cases h), fun j u hu => ⟨g, off, cs, (0, 0), rfl, hb, ?_⟩⟩
    have hj : j < n * sz := by rw [← hl]; exact (List.getElem?_eq_some_iff.1 hu).1
    rw [hx j hj, hu]
/-- A slice of the call's own, that may be written and appended to. -/
def Ty.seg (w0 : World) (e : TypeId) (sz n : Nat) (xs : List Value) : Ty := ⟨fun w v => ∃ S, Seg w e sz v n xs S ∧ ∀ y ∈ S, w0.heap.size ≤ y, fun t => t == e, fun {w w' v S'} ⟨S, h1, h2⟩ k hA => by
  refine ⟨S, h1.keeps k (fun x hx hx' => ?_), h2⟩
  rcases h1.2 with ⟨_, _, rfl⟩ | ⟨g, off, cap, cs, _, rfl, hb, _⟩
  · cases hx
  · simp only [List.mem_singleton] at hx
    subst hx
    obtain ⟨cs', t, fr, h3, h4⟩ := hA x hx' hb.lt
    unfold Blk at hb
    rw [hb] at h3
    simp only [Option.some.injEq, Obj.cells.injEq] at h3
    rw [← h3.2.1] at h4
    simp at h4⟩
theorem seg_sl {w0 : World} {e : TypeId} {sz n : Nat} {xs : List Value} : ∀ w v, (Ty.seg w0 e sz n xs).p w v → (Ty.sl e n xs).p w v := fun _ _ ⟨_, h, _⟩ => h.sl

/-- Cells that are read from an address on. -/
def Ty.at_ (e : TypeId) (xs : List Value) : Ty := ⟨fun w v => ∃ g off cs fr, v = .pointer (some ⟨g, off, none⟩) ∧ w.heap[g]? = some (.cells cs e fr) ∧ ∀ (j : Nat) (u : Value), xs[j]? = some u → cs[off + j]? = some u, fun t => t == e,
  fun ⟨g, off, cs, fr, h1, h2, h3⟩ k hA => ⟨g, off, cs, fr, h1, keeps_block k hA h2 (by simp), h3⟩⟩
/-- Cells of a type unknown. -/
def Ty.atR (xs : List Value) : Ty := ⟨fun w v => ∃ ad, v = .pointer (some ad) ∧ Rd w (some ad) xs ∧ xs ≠ [], fun _ => true, fun {w w' v S} h k hA => by
  obtain ⟨ad, h1, h4, h5⟩ := h
  refine ⟨ad, h1, fun j u hu => ?_, h5⟩
  obtain ⟨ad', e, hc⟩ := h4 j u hu
  injection e with e
  subst e
  have hl := World.block_lt_of_cell? w _ hc
  refine ⟨_, rfl, (World.cell?_of_block (w := w) (k.block _ hl (fun hm => ?_))).trans hc⟩
  obtain ⟨_, _, _, _, h⟩ := hA _ hm hl
  cases h⟩

section
variable {P : Program} {w0 : World} {Γ : Ctx} {o : Oper} {V : Ty}
theorem cLenH {x : Operand} {τ : Ty} {n : Nat} {t : TypeId} {d : TypeId} (ho : o.op = .call { callee := .builtin .len, args := #[x], argTypes := #[t] }) (hx : Has w0 Γ x τ) (hl : IsSl τ n) (hu : P.underlying t = some (.slice d)) : OpOk P w0 Γ o (Ty.ex (.int .i64 (n : Int))) :=
  .val fun a w hb hs => by
    obtain ⟨v, h1, h2⟩ := hx.see hs (by simp [ho, Op.operands, Call.operands]) hb
    obtain ⟨A, c, rfl⟩ := hl w v h2
    refine ⟨_, rfl, ?_⟩
    unfold execOp
    simp [ho, h1, resolve, invoke, builtin, Builtin.len_, run_underlying hu, goInt]
theorem rd_add {w : World} {ad : Addr} {xs : List Value} (h : Rd w (some ad) xs) (k : Nat) : Rd w (some (ad.add k)) (xs.drop k) := by
  have := Rd.dropAt h k
  simpa using this
/-- The address of an element. -/
theorem cIndexR {t e : TypeId} {x ix : Operand} {n k sz : Nat} {kd : IntKind} {xs : List Value} (ho : o.op = .indexAddr t x ix) (hx : Has w0 Γ x (Ty.rd n xs)) (hi : OpT Γ ix (Ty.ex (.int kd (k : Int)))) (hu : P.underlying t = some (.slice e)) (hz : (P.info? e).map (·.size) = some sz) (hk : k < n) (hne : k * sz < xs.length) : OpOk P w0 Γ o (Ty.atR (xs.drop (k * sz))) :=
  .val fun a w hb hs => by
    obtain ⟨v, h1, A, c, rfl, h2, h3, h4⟩ := hx.see hs (by simp [ho, Op.operands]) hb
    obtain ⟨i, h5, h6⟩ := hs ix _ (by simp [ho, Op.operands]) hi
    have h6 : i = .int kd (k : Int) := h6
    obtain ⟨ad, rfl, hc⟩ := h4.at_ hne
    obtain ⟨inf, hinf, hsz⟩ := Option.map_eq_some_iff.1 hz
    refine ⟨_, ⟨ad.add (k * sz), rfl, rd_add h4 _, fun h => ?_⟩, ?_⟩
    · have := congrArg List.length h; simp at this; omega
    · unfold execOp
      simp [ho, h1, h5, h6, Instr.indexAt, asIntOf, run_underlying hu, hk, sizeOf, typeInfo, hinf, hsz]
theorem cIndexS {t e : TypeId} {x ix : Operand} {n k sz : Nat} {kd : IntKind} {xs : List Value} (ho : o.op = .indexAddr t x ix) (hx : Has w0 Γ x (Ty.sl e n xs)) (hi : OpT Γ ix (Ty.ex (.int kd (k : Int)))) (hu : P.underlying t = some (.slice e)) (hz : (P.info? e).map (·.size) = some sz) (hk : k < n) (hne : k * sz < xs.length) : OpOk P w0 Γ o (Ty.at_ e (xs.drop (k * sz))) :=
  .val fun a w hb hs => by
    obtain ⟨v, h1, A, c, rfl, h2, h3, h4, h4'⟩ := hx.see hs (by simp [ho, Op.operands]) hb
    obtain ⟨i, h5, h6⟩ := hs ix _ (by simp [ho, Op.operands]) hi
    have h6 : i = .int kd (k : Int) := h6
    obtain ⟨g, off, cs, fr, rfl, h7, h8⟩ := h4' (k * sz) _ (List.getElem?_eq_getElem hne)
    obtain ⟨inf, hinf, hsz⟩ := Option.map_eq_some_iff.1 hz
    refine ⟨_, ⟨g, off + k * sz, cs, fr, rfl, h7, fun j u hu => ?_⟩, ?_⟩
    · rw [List.getElem?_drop] at hu
      obtain ⟨g', off', cs', fr', e1, h9, h10⟩ := h4' _ u hu
      injection e1 with e1
      injection e1 with e1 e2
      subst e1 e2
      rw [h7] at h9
      injection h9 with h9
      injection h9 with h9
      subst h9
      rw [Nat.add_assoc]
      exact h10
    · unfold execOp
      simp [ho, h1, h5, h6, Instr.indexAt, asIntOf, run_underlying hu, hk, sizeOf, typeInfo, hinf, hsz, Addr.add_lit]
/-- Loads. -/
theorem run_loadVar_rd {w : World} {ty : TypeId} {ad : Addr} {xs : List Value} {d : TypeDesc} (h : Rd w (some ad) xs)
    (hu : P.underlying ty = some d) (hd : (match d with | .struct _ | .array _ _ => true | _ => false) = true) (hi : (P.info? ty).map (·.size) = some xs.length) : (loadVar ty ad).run P w = .ok (.agg xs.toArray) w := by
  have hl := run_loadCells_list (P := P) w ad xs (fun j v hv => by
    obtain ⟨ad', e, hc⟩ := h j v hv
    injection e with e
    subst e
    exact hc)
  obtain ⟨inf, hinf, hsz⟩ := Option.map_eq_some_iff.1 hi
  have hagg : (isAgg ty).run P w = .ok true w := by
    unfold isAgg
    rw [Sem.run_bind, run_underlying hu]
    cases d <;> simp at hd <;> rfl
  unfold loadVar
  rw [Sem.run_bind, hagg]
  simp [sizeOf, typeInfo, hinf, hsz, hl]
theorem run_loadVar_one {w : World} {ty : TypeId} {ad : Addr} {u : Value} {xs : List Value} {d : TypeDesc} (h : Rd w (some ad) (u :: xs))
    (hu : P.underlying ty = some d) (hd : (match d with | .struct _ | .array _ _ => true | _ => false) = false) : (loadVar ty ad).run P w = .ok u w := by
  obtain ⟨ad', e, hc⟩ := h 0 u rfl
  injection e with e
  subst e
  have hagg : (isAgg ty).run P w = .ok false w := by
    unfold isAgg
    rw [Sem.run_bind, run_underlying hu]
    cases d <;> simp at hd <;> rfl
  have hc' : w.cell? ad = some u := by simpa [Addr.add] using hc
  unfold loadVar
  rw [Sem.run_bind, hagg]
  simp [load, Sem.run, hc']
theorem at_rd {w : World} {e : TypeId} {v : Value} {xs : List Value} (h : (Ty.at_ e xs).p w v) : ∃ ad, v = .pointer (some ad) ∧ Rd w (some ad) xs := by
  obtain ⟨g, off, cs, fr, rfl, h1, h2⟩ := h
  exact ⟨_, rfl, fun j u hu => ⟨_, rfl, by rw [Addr.add_lit, cell_of_row w g (off + j) cs e fr h1]; exact h2 j u hu⟩⟩
/-- A type whose values point to cells that read xs. -/
def Pts (τ : Ty) (xs : List Value) : Prop := ∀ w v, τ.p w v → ∃ ad, v = .pointer (some ad) ∧ Rd w (some ad) xs
theorem pts_at (e : TypeId) (xs : List Value) : Pts (Ty.at_ e xs) xs := fun _ _ h => at_rd h
theorem pts_atR (xs : List Value) : Pts (Ty.atR xs) xs := fun _ _ ⟨ad, h1, h2, _⟩ => ⟨ad, h1, h2⟩
theorem cLoadK {ty : TypeId} {x : Operand} {τ : Ty} {k : Nat} {xs : List Value} {d : TypeDesc} (ho : o.op = .load ty x) (hx : Has w0 Γ x τ) (hp : Pts τ xs) (hu : P.underlying ty = some d) (hd : (match d with | .struct _ | .array _ _ => true | _ => false) = true) (hi : (P.info? ty).map (·.size) = some k) (hk : k ≤ xs.length) : OpOk P w0 Γ o (Ty.ex (.agg (xs.take k).toArray)) :=
  .val fun a w hb hs => by
    obtain ⟨v, h1, h2⟩ := hx.see hs (by simp [ho, Op.operands]) hb
    obtain ⟨ad, rfl, h3⟩ := hp w v h2
    refine ⟨_, rfl, ?_⟩
    have h4 := run_loadVar_rd (P := P) (h3.take k) hu hd (by rw [hi]; simp; omega)
    unfold execOp
    simp [ho, h1, Instr.loadAt, Instr.sureAddr, h4]
theorem cLoad1 {ty : TypeId} {x : Operand} {τ : Ty} {u : Value} {xs : List Value} {d : TypeDesc} (ho : o.op = .load ty x) (hx : Has w0 Γ x τ) (hp : Pts τ (u :: xs)) (hu : P.underlying ty = some d) (hd : (match d with | .struct _ | .array _ _ => true | _ => false) = false) : OpOk P w0 Γ o (Ty.ex u) :=
  .val fun a w hb hs => by
    obtain ⟨v, h1, h2⟩ := hx.see hs (by simp [ho, Op.operands]) hb
    obtain ⟨ad, rfl, h3⟩ := hp w v h2
    refine ⟨_, rfl, ?_⟩
    have h4 := run_loadVar_one (P := P) h3 hu hd
    unfold execOp
    simp [ho, h1, Instr.loadAt, Instr.sureAddr, h4]
end

/-! ### Rows of sums -/
def flat (L : List Sm) : List Value := L.flatMap Sm.enc
theorem enc_len (x : Sm) : x.enc.length = 32 := by simp [Sm.enc, x.len]
theorem flat_len (L : List Sm) : (flat L).length = L.length * 32 := by
  unfold flat
  induction L with
  | nil => rfl
  | cons x L ih => rw [List.flatMap_cons, List.length_append, ih, enc_len, List.length_cons, Nat.add_mul]; omega
theorem flat_append (L M : List Sm) : flat (L ++ M) = flat L ++ flat M := List.flatMap_append ..
theorem flat_one (x : Sm) : flat [x] = x.enc := by simp [flat]
theorem flat_drop (L : List Sm) (k : Nat) : (flat L).drop (k * 32) = flat (L.drop k) := by
  induction k generalizing L with
  | zero => simp
  | succ k ih =>
    cases L with
    | nil => simp [flat]
    | cons x L =>
      rw [List.drop_succ_cons, ← ih]
      unfold flat
      rw [List.flatMap_cons, show (k + 1) * 32 = x.enc.length + k * 32 by rw [enc_len]; omega, ← List.drop_drop, List.drop_left]
theorem flat_take (L : List Sm) (k : Nat) : (flat L).take (k * 32) = flat (L.take k) := by
  induction k generalizing L with
  | zero => simp [flat]
  | succ k ih =>
    cases L with
    | nil => simp [flat]
    | cons x L =>
      rw [List.take_succ_cons]
      unfold flat
      rw [List.flatMap_cons, List.flatMap_cons, show (k + 1) * 32 = x.enc.length + k * 32 by rw [enc_len]; omega, List.take_length_add_append]
      congr 1
      exact ih L
theorem drop_get (L : List Sm) {k : Nat} (h : k < L.length) : L.drop k = L.getD k default :: L.drop (k + 1) := by
  rw [List.drop_eq_getElem_cons h]
  simp [List.getD, List.getElem?_eq_getElem h]
theorem flat_at (L : List Sm) {k : Nat} (h : k < L.length) : (flat L).drop (k * 32) = (L.getD k default).enc ++ flat (L.drop (k + 1)) := by
  rw [flat_drop, drop_get L h]
  rfl
theorem flat_one' {L : List Sm} : ∀ u ∈ flat L, u.oneCell' = true := by
  intro u hu
  obtain ⟨x, _, h⟩ := List.mem_flatMap.1 hu
  obtain ⟨b, _, rfl⟩ := List.mem_map.1 h
  rfl
/-- A row of sums. -/
abbrev Ty.sums (e : TypeId) (L : List Sm) : Ty := Ty.sl e L.length (flat L)
section
variable {P : Program} {w0 : World} {Γ : Ctx} {o : Oper}
theorem cIndexSum {t e : TypeId} {x ix : Operand} {k : Nat} {kd : IntKind} {L : List Sm} (ho : o.op = .indexAddr t x ix) (hx : Has w0 Γ x (Ty.sums e L)) (hi : OpT Γ ix (Ty.ex (.int kd (k : Int)))) (hu : P.underlying t = some (.slice e)) (hz : (P.info? e).map (·.size) = some 32) (hk : k < L.length) : OpOk P w0 Γ o (Ty.at_ e (L.getD k default).enc) := by
  have h := cIndexS (P := P) ho hx hi hu hz hk (by rw [flat_len]; omega)
  rw [flat_at L hk] at h
  exact h.conv fun w v ⟨g, off, cs, fr, h1, h2, h3⟩ => ⟨g, off, cs, fr, h1, h2, fun j u hu => h3 j u (by rw [List.getElem?_append_left (List.getElem?_eq_some_iff.1 hu).1]; exact hu)⟩
theorem cLoadSum {ty e d : TypeId} {x : Operand} {y : Sm} (ho : o.op = .load ty x) (hx : Has w0 Γ x (Ty.at_ e y.enc)) (hu : P.underlying ty = some (.array 32 d)) (hi : (P.info? ty).map (·.size) = some 32) : OpOk P w0 Γ o (Ty.ex (.agg (u8s y.l))) := by
  have h := cLoadK (P := P) ho hx (pts_at e y.enc) hu rfl hi (by rw [enc_len]; omega)
  rwa [List.take_of_length_le (by rw [enc_len]; omega)] at h
theorem cLoadSumR {ty d : TypeId} {x : Operand} {y : Sm} (ho : o.op = .load ty x) (hx : Has w0 Γ x (Ty.atR y.enc)) (hu : P.underlying ty = some (.array 32 d)) (hi : (P.info? ty).map (·.size) = some 32) : OpOk P w0 Γ o (Ty.ex (.agg (u8s y.l))) := by
  have h := cLoadK (P := P) ho hx (pts_atR y.enc) hu rfl hi (by rw [enc_len]; omega)
  rwa [List.take_of_length_le (by rw [enc_len]; omega)] at h
end

/-! ### Steps behind a region's head -/
/-- No word of Γ hangs on memory of type e. -/
def Ctx.free (Γ : Ctx) (e : TypeId) : Bool := Γ.all fun p => !p.2.el e
theorem Ctx.free_look {Γ : Ctx} {e : TypeId} (h : Γ.free e = true) {s : Nat} {τ : Ty} (hs : look Γ s = some τ) : τ.el e = false := by
  induction Γ with
  | nil => cases hs
  | cons p Γ ih =>
    unfold Ctx.free at h
    simp only [List.all_cons, Bool.and_eq_true, Bool.not_eq_true'] at h
    unfold look at hs
    cases hb : Nat.beq p.1 s with
    | true => rw [hb] at hs; simp only [cond_true] at hs; injection hs with hs; rw [← hs]; exact h.1
    | false => rw [hb] at hs; simp only [cond_false] at hs; exact ih h.2 hs
theorem Fr.free {N : Nat} {Γ : Ctx} {a : Act} {w w' : World} (h : Fr N Γ a w) {S : List Nat} (k : Keeps S w w') {e : TypeId} (hS : ∀ b ∈ S, b < w.heap.size → ∃ cs fr, w.heap[b]? = some (.cells cs e fr)) (hf : Γ.free e = true) : Fr N Γ a w' :=
  h.keeps k fun _ _ hs b hb hl => let ⟨cs, fr, h1⟩ := hS b hb hl; ⟨cs, e, fr, h1, Ctx.free_look hf hs⟩
theorem Seg.blocks {w : World} {e : TypeId} {sz n : Nat} {v : Value} {xs : List Value} {S : List Nat} (h : Seg w e sz v n xs S) : ∀ b ∈ S, b < w.heap.size → ∃ cs fr, w.heap[b]? = some (.cells cs e fr) := by
  intro b hb _
  rcases h.2 with ⟨_, _, rfl⟩ | ⟨g, off, cap, cs, _, rfl, hB, _⟩
  · cases hb
  · simp only [List.mem_singleton] at hb
    subst hb
    exact ⟨cs, (0, 0), hB⟩
theorem below_own {w wr w' : World} {S : List Nat} (hB : Below w.heap.size w wr) (hk : Keeps S wr w') (hS : ∀ y ∈ S, w.heap.size ≤ y) : Below w.heap.size w w' := ((Keeps.of_below (S := []) hB).trans' hk fun x hx => .inr (hS x hx)).below
theorem own_next {w wr : World} {S S' : List Nat} (hB : Below w.heap.size w wr) (hS : ∀ y ∈ S, w.heap.size ≤ y) (h : S' = S ∨ S' = [wr.heap.size]) : ∀ y ∈ S', w.heap.size ≤ y := by
  rcases h with rfl | rfl
  · exact hS
  · intro y hy
    simp only [List.mem_singleton] at hy
    subst hy
    exact hB.size
theorem u8s_list (l : List Nat) : (u8s l).toList = l.map bv := by simp [u8s]
section
variable {K : Act → World → Prop} {Q : Exit → Act → World → Prop} {a : Act} {w : World} {id j : Nat}
theorem nThen (h : K a w) : Exit.then K Q .normal a w := h
theorem nBlk (h : Q .normal a w) : Exit.inBlock id Q .normal a w := h
theorem xThen (h : Q (.exit id) a w) : Exit.then K Q (.exit id) a w := h
theorem xHere (h : Q .normal a w) : Exit.inBlock id Q (.exit id) a w := by simp only [Exit.inBlock, if_true]; exact h
theorem rThen (h : Q .ret a w) : Exit.then K Q .ret a w := h
theorem rBlk (h : Q .ret a w) : Exit.inBlock id Q .ret a w := h
end
/-- Some slots alone. -/
def pick (Γ : Ctx) : List Nat → Ctx
  | [] => []
  | s :: ss => match look Γ s with | some τ => (s, τ) :: pick Γ ss | none => pick Γ ss
theorem Fr.keep {N : Nat} {Γ : Ctx} {a : Act} {w : World} (h : Fr N Γ a w) : ∀ ss : List Nat, Fr N (pick Γ ss) a w
  | [] => h.nil
  | s :: ss => by
    unfold pick
    cases hs : look Γ s with
    | none => exact h.keep ss
    | some τ => exact h.too (h.keep ss) hs
section
variable {P : Program} {ops : Array Oper} {Q : Exit → Act → World → Prop} {rest : List Oper} {o : Oper} {a : Act} {w : World} {N : Nat} {Γ : Ctx}
/-- A line. -/
theorem tlOp {d : Nat} {V : Ty} (hF : Fr N Γ a w) (hg : o.guard = none) (hd : o.dst = some d) (hN : decide (d < N) = true) (h : OpOk P w Γ o V) (hk : ∀ a' w', Fr N ((d, V) :: Γ) a' w' → Below w.heap.size w w' → wpList P ops Q rest a' w') : wpList P ops Q (o :: rest) a w :=
  wpList_plain hg fun K hK => h a w K Q (Below.refl _ _) (fun s τ _ hs => hF.val s τ hs) fun v w' hv hb => by
    rw [hd]
    exact hK _ _ (hk _ _ (hF.put (of_decide_eq_true hN) hb hv) hb)
/-- append to a slice of the call's own: Δ is what is still wanted of the frame. -/
theorem tlAppend {d : Nat} {s : Nat} {x : Operand} {t e : TypeId} {z : Value} {sz bytes n m : Nat} {v : Value} {xs news : List Value} {S : List Nat} {Δ : Ctx} {τ : Ty} (hF : Fr N Γ a w) (hg : o.guard = none) (hd : o.dst = some d) (hN : decide (d < N) = true)
    (ho : o.op = .call { callee := .builtin .append, args := #[.tmp s, x], argTypes := #[t, t] }) (ht : P.underlying t = some (.slice e)) (hi : (P.info? e).map (fun i => (i.zero, i.size, i.bytes)) = some (some z, sz, bytes)) (hzs : z.cells.size = sz)
    (hs : look Γ s = some (Ty.ex v)) (hseg : Seg w e sz v n xs S) (hx : Has w Γ x τ) (hτ : ∀ u, τ.p w u → ∃ A c, u = .slice A m c ∧ (A = none → m = 0) ∧ Rd w A news) (hl : news.length = m * sz) (h1 : ∀ u ∈ news, u.oneCell' = true) (h63 : n + m ≤ maxLen) (hbytes : (n + m) * bytes ≤ 140737488355328)
    (hΔ : Fr N Δ a w) (hfree : Δ.free e = true)
    (hk : ∀ a' w' v' S', Fr N ((d, Ty.ex v') :: Δ) a' w' → Seg w' e sz v' (n + m) (xs ++ news) S' → Keeps S w w' → (S' = S ∨ S' = [w.heap.size]) → wpList P ops Q rest a' w') : wpList P ops Q (o :: rest) a w := by
  have hxv : ∃ u, a.eval x = u ∧ τ.p w u := by
    obtain ⟨σ, hx1, hx2⟩ := hx
    have : ∃ u, a.eval x = u ∧ σ.p w u := by
      cases x with
      | tmp s' => exact hF.get hx1
      | const c => exact ⟨c, rfl, by rw [← show Ty.ex c = σ from hx1]; rfl⟩
      | func f => exact ⟨_, rfl, by rw [← show Ty.ex _ = σ from hx1]; rfl⟩
      | «global» g => exact ⟨_, rfl, by rw [← show Ty.ex _ = σ from hx1]; rfl⟩
    obtain ⟨u, h2, h3⟩ := this
    exact ⟨u, h2, hx2 w u (Below.refl _ _) h3⟩
  obtain ⟨u, hu, hp⟩ := hxv
  obtain ⟨A, c, rfl, hA, hr⟩ := hτ u hp
  refine wpList_append_seg w hg (.tmp s) x t ho e z sz bytes ht hi hzs v n xs S (hF.getEx hs) hseg A m c news hu hl hr hA h1 h63 hbytes fun v' w' S' h2 h3 h4 => ?_
  rw [hd]
  refine hk _ w' v' S' ?_ h2 h3 h4
  exact (hΔ.free h3 hseg.blocks hfree).put (of_decide_eq_true hN) (Below.refl _ _) rfl
end
theorem sl_news {w : World} {e : TypeId} {m : Nat} {news : List Value} : ∀ u, (Ty.sl e m news).p w u → ∃ A c, u = .slice A m c ∧ (A = none → m = 0) ∧ Rd w A news := fun u h => by
  have h' := h
  obtain ⟨A, c, rfl, _, _, h4, _⟩ := h'
  exact ⟨A, c, rfl, fun e => (h4 e).1, SlP.rd h⟩
/-- A slice written out: its memory is new. -/
theorem cBuildSl {P : Program} {w0 : World} {Γ : Ctx} {o : Oper} {t e : TypeId} {n : Nat} {parts : Array (Nat × Operand)} {vals : Array (Nat × Value)} {cs : Array Value} (ho : o.op = .buildSlice t n parts) (hp : ∀ (a : Act) (w : World), SeesO Γ o a w → (parts.map fun (i, x) => (i, a.eval x)) = vals)
    (hn : n ≤ maxLen) (hr : ∀ w : World, (Instr.buildSlice t n vals).run P w = .ok (.slice (some ⟨w.heap.size, 0, none⟩) n n) (w.alloc (.cells cs e))) : OpOk P w0 Γ o (Ty.sl e n cs.toList) :=
  .new fun a w _ hs => by
    refine ⟨.slice (some ⟨w.heap.size, 0, none⟩) n n, _, ?_, ((Keeps.refl [] w).alloc (.cells cs e)).below, ?_⟩
    · exact ⟨_, n, rfl, Nat.le_refl _, hn, fun h => (by cases h), fun j u hu => ⟨w.heap.size, 0, cs, (0, 0), rfl, heap_alloc_new w _, by rw [Nat.zero_add]; simpa using hu⟩⟩
    · have h1 := hp a w hs
      have h2 := hr w
      unfold execOp
      simp only [ho]
      rw [h1, Sem.run_bind, h2]
      rfl
end Go.Proofs.Ytbjlmhbpcopfbaa

/- Regions by types: slices written out; slices whose cells are told by types. -/
namespace Go.Proofs.Ytbjlmhbpcopfbaa
open Go.RowKit

theorem foldl_splice (l : List Value) : ∀ (k off : Nat) (cs : Array Value), (l.zipIdx k).foldl (fun cs (p : Value × Nat) => cs.setIfInBounds (off + p.2) p.1) cs = splice cs (off + k) l := by
  induction l with
  | nil => intro k off cs; rfl
  | cons v l ih =>
    intro k off cs
    rw [List.zipIdx_cons, List.foldl_cons, ih (k + 1) off, splice, Nat.add_assoc]
theorem fill_all (sz : Nat) : ∀ (vs : List Value) (k : Nat) (cells : Array Value), (∀ v ∈ vs, v.cells.size = sz) → cells.size = (k + vs.length) * sz →
    ∃ R : Array Value, Instr.fill (fun i => some (i * sz, sz)) cells ((vs.zipIdx k).map fun p => (p.2, p.1)) = some R ∧ R.toList = cells.toList.take (k * sz) ++ (vs.map fun v => v.cells.toList).flatten
  | [], k, cells, _, hs => ⟨cells, rfl, by simp at hs ⊢; rw [List.take_of_length_le (by simp [hs])]⟩
  | v :: vs, k, cells, hv, hs => by
    have hvs := hv v (by simp)
    have hle : k * sz + sz ≤ cells.size := by
      rw [hs, ← Nat.succ_mul]
      exact Nat.mul_le_mul_right _ (by simp)
    have hfold : v.cells.zipIdx.foldl (fun cs (p : Value × Nat) => cs.setIfInBounds (k * sz + p.2) p.1) cells = splice cells (k * sz) v.cells.toList := by
      rw [← Array.foldl_toList, Array.toList_zipIdx, foldl_splice, Nat.add_zero]
    obtain ⟨R, h1, h2⟩ := fill_all sz vs (k + 1) (splice cells (k * sz) v.cells.toList) (fun u hu => hv u (by simp [hu])) (by rw [splice_size, hs, List.length_cons]; congr 1; omega)
    refine ⟨R, ?_, ?_⟩
    · rw [List.zipIdx_cons, List.map_cons]
      unfold Instr.fill
      simp only []
      rw [if_neg (by simp [hvs]; omega)]
      rw [← hfold] at h1
      exact h1
    · rw [h2, List.map_cons, List.flatten_cons, ← List.append_assoc]
      congr 1
      have hvl : v.cells.toList.length = sz := by simpa using hvs
      apply List.ext_getElem?
      intro j
      rw [List.getElem?_take, Array.getElem?_toList, splice_get _ _ _ _ (by rw [hvl]; exact hle), Nat.succ_mul]
      by_cases h3 : j < k * sz
      · rw [if_pos (by omega), if_neg (by omega), List.getElem?_append_left (by simp; omega), List.getElem?_take, if_pos h3]
        simp
      · rw [List.getElem?_append_right (by simp; omega)]
        have e : (List.take (k * sz) cells.toList).length = k * sz := by simp; omega
        rw [e]
        by_cases h4 : j < k * sz + sz
        · rw [if_pos h4, if_pos (by rw [hvl]; omega)]
        · rw [if_neg h4, List.getElem?_eq_none (by rw [hvl]; omega)]
/-- A slice written out. -/
theorem run_buildSlice {P : Program} {t e : TypeId} {z : Value} {sz bytes : Nat} (n : Nat) (vs : List Value) (hu : P.underlying t = some (.slice e)) (hi : (P.info? e).map (fun i => (i.zero, i.size, i.bytes)) = some (some z, sz, bytes))
    (hn : vs.length = n) (hv : ∀ v ∈ vs, v.cells.size = sz) (hbig : n * sz ≤ 16777216) (w : World) :
    (Instr.buildSlice t n ((vs.zipIdx).map fun p => (p.2, p.1)).toArray).run P w = .ok (.slice (some ⟨w.heap.size, 0, none⟩) n n) (w.alloc (.cells (vs.map fun v => v.cells.toList).flatten.toArray e)) := by
  obtain ⟨inf, hinf, hz, hsz, hby⟩ := info_parts hi
  have hsz2 : (Go.sizeOf e).run P w = .ok sz w := by simp [sizeOf, typeInfo, hinf, hsz]
  have hzero : (zeroValue e).run P w = .ok z w := by simp [zeroValue, typeInfo, hinf, hz]
  have key : ∀ zs : Array Value, ∃ R : Array Value, Instr.fill (fun i => some (i * sz, sz)) ((Array.range (n * sz)).map (zs[· % zs.size]!)) (((vs.zipIdx).map fun p => (p.2, p.1)).toArray).toList = some R ∧ R = (vs.map fun v => v.cells.toList).flatten.toArray := fun zs => by
    obtain ⟨R, h1, h2⟩ := fill_all sz vs 0 ((Array.range (n * sz)).map (zs[· % zs.size]!)) hv (by simp [hn])
    exact ⟨R, h1, Array.toList_inj.1 (by rw [h2]; simp)⟩
  unfold Instr.buildSlice
  rw [Sem.run_bind, run_underlying hu]
  simp only [Result.andThen_ok]
  rw [Sem.run_bind, hsz2]
  simp only [Result.andThen_ok]
  rw [if_neg (by omega)]
  by_cases h0 : n * sz = 0
  · obtain ⟨R, h1, rfl⟩ := key #[]
    rw [if_pos h0]
    simp only [pure_bind]
    rw [h1]
    rfl
  · obtain ⟨R, h1, rfl⟩ := key z.cells
    rw [if_neg h0, Sem.run_bind, hzero]
    simp only [Result.andThen_ok, pure_bind]
    rw [h1]
    rfl
theorem parts1v {Γ : Ctx} {o : Oper} {t : TypeId} {n : Nat} {x : Operand} {v : Value} (ho : o.op = .buildSlice t n #[(0, x)]) (hx : OpT Γ x (Ty.ex v)) : ∀ (a : Act) (w : World), SeesO Γ o a w → ((#[(0, x)] : Array (Nat × Operand)).map fun (i, x) => (i, a.eval x)) = (([v] : List Value).zipIdx.map fun p => (p.2, p.1)).toArray := fun a w hs => by
  obtain ⟨u, h1, h2⟩ := hs x _ (by simp [ho, Op.operands]) hx
  have h2 : u = v := h2
  simp [h1, h2]
theorem parts2v {Γ : Ctx} {o : Oper} {t : TypeId} {n : Nat} {x y : Operand} {v u : Value} (ho : o.op = .buildSlice t n #[(0, x), (1, y)]) (hx : OpT Γ x (Ty.ex v)) (hy : OpT Γ y (Ty.ex u)) : ∀ (a : Act) (w : World), SeesO Γ o a w → ((#[(0, x), (1, y)] : Array (Nat × Operand)).map fun (i, x) => (i, a.eval x)) = (([v, u] : List Value).zipIdx.map fun p => (p.2, p.1)).toArray := fun a w hs => by
  obtain ⟨v', h1, h2⟩ := hs x _ (by simp [ho, Op.operands]) hx
  obtain ⟨u', h3, h4⟩ := hs y _ (by simp [ho, Op.operands]) hy
  have h2 : v' = v := h2
  have h4 : u' = u := h4
  simp [h1, h2, h3, h4]
/-- A slice of known values. -/
theorem cBuildV {P : Program} {w0 : World} {Γ : Ctx} {o : Oper} {t e : TypeId} {z : Value} {sz bytes : Nat} {n : Nat} {parts : Array (Nat × Operand)} {vs : List Value} (ho : o.op = .buildSlice t n parts) (hp : ∀ (a : Act) (w : World), SeesO Γ o a w → (parts.map fun (i, x) => (i, a.eval x)) = (vs.zipIdx.map fun p => (p.2, p.1)).toArray)
    (hu : P.underlying t = some (.slice e)) (hi : (P.info? e).map (fun i => (i.zero, i.size, i.bytes)) = some (some z, sz, bytes)) (hn : vs.length = n) (hv : ∀ v ∈ vs, v.cells.size = sz) (hbig : n * sz ≤ 16777216) (hm : n ≤ maxLen) :
    OpOk P w0 Γ o (Ty.sl e n (vs.map fun v => v.cells.toList).flatten) := by
  have h := cBuildSl (P := P) (w0 := w0) ho hp hm (fun w => run_buildSlice n vs hu hi hn hv hbig w)
  rwa [List.toList_toArray] at h
/-- Rows of sums, written out. -/
theorem flat_cells (L : List Sm) : ((L.map fun x => (.agg (u8s x.l) : Value)).map fun v => v.cells.toList).flatten = flat L := by
  unfold flat
  rw [List.flatMap_def, List.map_map]
  congr 1
theorem cells_sums (L : List Sm) : ∀ v ∈ (L.map fun x => (.agg (u8s x.l) : Value)), v.cells.size = 32 := by
  intro v hv
  obtain ⟨x, _, rfl⟩ := List.mem_map.1 hv
  show (u8s x.l).size = 32
  rw [u8s_size, x.len]
theorem cBuildSums {P : Program} {w0 : World} {Γ : Ctx} {o : Oper} {t e : TypeId} {z : Value} {bytes n : Nat} {parts : Array (Nat × Operand)} (L : List Sm) (ho : o.op = .buildSlice t n parts) (hp : ∀ (a : Act) (w : World), SeesO Γ o a w → (parts.map fun (i, x) => (i, a.eval x)) = ((L.map fun x => (.agg (u8s x.l) : Value)).zipIdx.map fun p => (p.2, p.1)).toArray)
    (hu : P.underlying t = some (.slice e)) (hi : (P.info? e).map (fun i => (i.zero, i.size, i.bytes)) = some (some z, 32, bytes)) (hn : (decide (L.length = n) && decide (n ≤ 1000)) = true) : OpOk P w0 Γ o (Ty.sums e L) := by
  simp only [Bool.and_eq_true, decide_eq_true_eq] at hn
  have h := cBuildV (P := P) (w0 := w0) ho hp hu hi (by simpa using hn.1) (cells_sums L) (by omega) (by simp [maxLen]; omega)
  rw [flat_cells] at h
  unfold Ty.sums
  rw [hn.1]
  exact h

/-! ### Slices whose cells are told by types -/
def SlT (w : World) (e : TypeId) (v : Value) (n : Nat) (τs : List Ty) : Prop :=
  ∃ A c, v = .slice A n c ∧ n ≤ c ∧ c ≤ maxLen ∧ (A = none → n = 0 ∧ c = 0) ∧ ∀ (j : Nat) (τ : Ty), τs[j]? = some τ → ∃ g off cs fr u, A = some ⟨g, off, none⟩ ∧ w.heap[g]? = some (.cells cs e fr) ∧ cs[off + j]? = some u ∧ τ.p w u
def Ty.slT (e : TypeId) (n : Nat) (τs : List Ty) : Ty := ⟨fun w v => SlT w e v n τs, fun t => t == e || τs.any fun τ => τ.el t, fun {w w' v S} h k hA => by
  obtain ⟨A, c, h1, h2, h3, h4, h5⟩ := h
  refine ⟨A, c, h1, h2, h3, h4, fun j τ hj => ?_⟩
  obtain ⟨g, off, cs, fr, u, h6, h7, h8, h9⟩ := h5 j τ hj
  refine ⟨g, off, cs, fr, u, h6, keeps_block k hA h7 (by simp), h8, τ.st h9 k fun b hb hl => ?_⟩
  obtain ⟨cs', t, fr', h10, h11⟩ := hA b hb hl
  refine ⟨cs', t, fr', h10, ?_⟩
  simp only [Bool.or_eq_false_iff, List.any_eq_false] at h11
  simpa using h11.2 τ (List.mem_of_getElem? hj)⟩
theorem All2.length {w : World} : ∀ {vs : List Value} {τs : List Ty}, All2 w vs τs → vs.length = τs.length
  | [], [], _ => rfl
  | v :: vs, τ :: τs, h => by simp [All2.length h.2]
  | [], _ :: _, h => h.elim
  | _ :: _, [], h => h.elim
theorem cBuildT {P : Program} {w0 : World} {Γ : Ctx} {o : Oper} {t e : TypeId} {z : Value} {bytes n : Nat} {parts : Array (Nat × Operand)} {τs : List Ty} (ho : o.op = .buildSlice t n parts) (hp : ∀ (a : Act) (w : World), Below w0.heap.size w0 w → SeesO Γ o a w → ∃ vs : List Value, (parts.map fun (i, x) => (i, a.eval x)) = (vs.zipIdx.map fun p => (p.2, p.1)).toArray ∧ All2 w vs τs ∧ ∀ v ∈ vs, v.cells = #[v])
    (hu : P.underlying t = some (.slice e)) (hi : (P.info? e).map (fun i => (i.zero, i.size, i.bytes)) = some (some z, 1, bytes)) (hn : (decide (τs.length = n) && decide (n ≤ 1000)) = true) : OpOk P w0 Γ o (Ty.slT e n τs) :=
  .new fun a w hb hs => by
    simp only [Bool.and_eq_true, decide_eq_true_eq] at hn
    obtain ⟨vs, h1, h2, h3⟩ := hp a w hb hs
    have hl : vs.length = n := h2.length.trans hn.1
    have hr := run_buildSlice (P := P) n vs hu hi hl (fun v hv => by rw [h3 v hv]; rfl) (by omega) w
    have hf : (vs.map fun v => v.cells.toList).flatten = vs := by
      have : (vs.map fun v => v.cells.toList) = vs.map fun v => [v] := List.map_congr_left fun v hv => by rw [h3 v hv]
      rw [this, ← List.flatMap_def]
      simp
    rw [hf] at hr
    have hbl : Below w.heap.size w (w.alloc (.cells vs.toArray e)) := ((Keeps.refl [] w).alloc _).below
    refine ⟨.slice (some ⟨w.heap.size, 0, none⟩) n n, _, ?_, hbl, ?_⟩
    · refine ⟨_, n, rfl, Nat.le_refl _, by simp [maxLen]; omega, fun h => (by cases h), fun j τ hj => ?_⟩
      obtain ⟨u, h4, h5⟩ := h2.at_ hj
      exact ⟨w.heap.size, 0, vs.toArray, (0, 0), u, rfl, heap_alloc_new w _, by rw [Nat.zero_add]; simpa using h4, τ.below h5 hbl⟩
    · unfold execOp
      simp only [ho]
      rw [h1, Sem.run_bind, hr]
      rfl
theorem partsT1 {w0 : World} {Γ : Ctx} {o : Oper} {t : TypeId} {n m : Nat} {x : Operand} {τ : Ty} (ho : o.op = .buildSlice t n #[(0, x)]) (hx : Has w0 Γ x τ) (h1 : IsSl τ m) : ∀ (a : Act) (w : World), Below w0.heap.size w0 w → SeesO Γ o a w → ∃ vs : List Value, ((#[(0, x)] : Array (Nat × Operand)).map fun (i, x) => (i, a.eval x)) = (vs.zipIdx.map fun p => (p.2, p.1)).toArray ∧ All2 w vs [τ] ∧ ∀ v ∈ vs, v.cells = #[v] := fun a w hb hs => by
  obtain ⟨u, h2, h3⟩ := hx.see hs (by simp [ho, Op.operands]) hb
  obtain ⟨A, c, rfl⟩ := h1 w u h3
  exact ⟨[.slice A m c], by simp [h2], ⟨h3, trivial⟩, by simp [Value.cells]⟩
theorem partsT2 {w0 : World} {Γ : Ctx} {o : Oper} {t : TypeId} {n m m' : Nat} {x y : Operand} {τ σ : Ty} (ho : o.op = .buildSlice t n #[(0, x), (1, y)]) (hx : Has w0 Γ x τ) (hy : Has w0 Γ y σ) (h1 : IsSl τ m) (h1' : IsSl σ m') : ∀ (a : Act) (w : World), Below w0.heap.size w0 w → SeesO Γ o a w → ∃ vs : List Value, ((#[(0, x), (1, y)] : Array (Nat × Operand)).map fun (i, x) => (i, a.eval x)) = (vs.zipIdx.map fun p => (p.2, p.1)).toArray ∧ All2 w vs [τ, σ] ∧ ∀ v ∈ vs, v.cells = #[v] := fun a w hb hs => by
  obtain ⟨u, h2, h3⟩ := hx.see hs (by simp [ho, Op.operands]) hb
  obtain ⟨A, c, rfl⟩ := h1 w u h3
  obtain ⟨u', h4, h5⟩ := hy.see hs (by simp [ho, Op.operands]) hb
  obtain ⟨A', c', rfl⟩ := h1' w u' h5
  exact ⟨[.slice A m c, .slice A' m' c'], by simp [h2, h4], ⟨h3, h5, trivial⟩, by simp [Value.cells]⟩
end Go.Proofs.Ytbjlmhbpcopfbaa

/- Regions by types: boxes, arrays, slices of slices; calls by any readable slice; more ways of a walk. -/
namespace Go.Proofs.Ytbjlmhbpcopfbaa
open Go.RowKit

theorem Has.c {w0 : World} {Γ : Ctx} {x : Operand} {τ σ : Ty} (h : Has w0 Γ x τ) (hc : ∀ w v, τ.p w v → σ.p w v) : Has w0 Γ x σ :=
  let ⟨υ, h1, h2⟩ := h; ⟨υ, h1, fun w v hb hp => hc w v (h2 w v hb hp)⟩
/-- Values that are slices of n elements that read xs. -/
def Reads (τ : Ty) (n : Nat) (xs : List Value) : Prop := ∀ w v, τ.p w v → ∃ A c, v = .slice A n c ∧ n ≤ maxLen ∧ (A = none → n = 0) ∧ Rd w A xs
theorem reads_sl (e : TypeId) (n : Nat) (xs : List Value) : Reads (Ty.sl e n xs) n xs := fun w v h => by
  have h' := h
  obtain ⟨A, c, rfl, h2, h3, h4, _⟩ := h'
  exact ⟨A, c, rfl, Nat.le_trans h2 h3, fun e => (h4 e).1, SlP.rd h⟩
theorem Has.r {w0 : World} {Γ : Ctx} {x : Operand} {τ : Ty} {n : Nat} {xs : List Value} (h : OpT Γ x τ) (hr : Reads τ n xs) : Has w0 Γ x (Ty.rd n xs) := Has.c (.t h) hr

section
variable {P : Program} {w0 : World} {Γ : Ctx} {o : Oper}
/-- A value is laid into a new block. -/
theorem cBox {t : TypeId} {x : Operand} {v : Value} (ho : o.op = .box t x) (hx : OpT Γ x (Ty.ex v)) : OpOk P w0 Γ o (Ty.at_ t v.cells.toList) :=
  .new fun a w _ hs => by
    obtain ⟨u, h1, h2⟩ := hs x _ (by simp [ho, Op.operands]) hx
    have h2 : u = v := h2
    subst h2
    refine ⟨.pointer (some ⟨w.heap.size, 0, none⟩), _, ⟨w.heap.size, 0, u.cells, (0, 0), rfl, heap_alloc_new w _, fun j z hz => by rw [Nat.zero_add]; simpa using hz⟩, ((Keeps.refl [] w).alloc (.cells u.cells t)).below, ?_⟩
    unfold execOp
    simp only [ho, h1]
    simp [Instr.box, newVar, newRow, go_sem]
theorem cBoxSum {t : TypeId} {x : Operand} {y : Sm} (ho : o.op = .box t x) (hx : OpT Γ x (Ty.ex (.agg (u8s y.l)))) : OpOk P w0 Γ o (Ty.at_ t y.enc) := by
  have h := cBox (P := P) (w0 := w0) ho hx
  rwa [show (Value.agg (u8s y.l)).cells.toList = y.enc from u8s_list y.l] at h
/-- An array, as a slice. -/
theorem cSliceArr {t e ea : TypeId} {x : Operand} {n : Nat} {xs : List Value} (ho : o.op = .slice t x none none none) (hx : Has w0 Γ x (Ty.at_ e xs)) (hu : P.underlying t = some (.array n ea)) (hz : (P.info? ea).map (·.size) = some 1) (hn : n ≤ maxLen) : OpOk P w0 Γ o (Ty.sl e n xs) :=
  .val fun a w hb hs => by
    obtain ⟨v, h1, g, off, cs, fr, rfl, h2, h3⟩ := hx.see hs (by simp [ho, Op.operands]) hb
    obtain ⟨inf, hinf, hsz⟩ := Option.map_eq_some_iff.1 hz
    refine ⟨.slice (some ⟨g, off, none⟩) n n, ⟨_, n, rfl, Nat.le_refl _, hn, fun h => (by cases h), fun j u hu => ⟨g, off, cs, fr, rfl, h2, h3 j u hu⟩⟩, ?_⟩
    unfold execOp
    simp [ho, h1, Instr.sliceAt, Instr.sureAddr, Instr.sliceBounds, run_underlying hu, sizeOf, typeInfo, hinf, Addr.add_lit]
/-- Calls by what the arguments are in whatever later world. -/
theorem cCallH1 {f : FuncId} {ats : Array TypeId} {x : Operand} {τ ρ : Ty} (ho : o.op = .call { callee := .value (.func f), args := #[x], argTypes := ats }) (hx : Has w0 Γ x τ) (hc : Fn1 P f τ ρ) : OpOk P w0 Γ o ρ :=
  .call fun a w hb hs => by
    obtain ⟨v, h1, h2⟩ := hx.see hs (by simp [ho, Op.operands, Call.operands]) hb
    refine ⟨f, #[v], ?_, hc.ret w v h2⟩
    rw [exec_go a.eval ho rfl]
    simp only [List.map_toArray, List.map_cons, List.map_nil, h1]
    exact hc.en _ w
theorem cCallH2 {f : FuncId} {ats : Array TypeId} {x y : Operand} {τ σ ρ : Ty} (ho : o.op = .call { callee := .value (.func f), args := #[x, y], argTypes := ats }) (hx : Has w0 Γ x τ) (hy : Has w0 Γ y σ) (hc : Fn2 P f τ σ ρ) : OpOk P w0 Γ o ρ :=
  .call fun a w hb hs => by
    obtain ⟨v, h1, h2⟩ := hx.see hs (by simp [ho, Op.operands, Call.operands]) hb
    obtain ⟨u, h3, h4⟩ := hy.see hs (by simp [ho, Op.operands, Call.operands]) hb
    refine ⟨f, #[v, u], ?_, hc.ret w v u h2 h4⟩
    rw [exec_go a.eval ho rfl]
    simp only [List.map_toArray, List.map_cons, List.map_nil, h1, h3]
    exact hc.en _ w
end

section
variable {P : Program} {Γ : Ctx} {N : Nat} {a : Act} {w : World} {Q : Exit → Act → World → Prop}
end
end Go.Proofs.Ytbjlmhbpcopfbaa

/- Regions by types: rows of the call's own that are written: elements stored, rows cleared; calls that act. -/
namespace Go.Proofs.Ytbjlmhbpcopfbaa
open Go.RowKit

/-- A segment by its letters: n elements of sz cells in block g from off on, with room for cap. -/
def SegL (w : World) (e : TypeId) (sz g off n cap : Nat) (xs : List Value) : Prop :=
  xs.length = n * sz ∧ n ≤ cap ∧ cap ≤ maxLen ∧ ∃ cs, Blk w g e cs ∧ off + cap * sz ≤ cs.size ∧ ∀ j, j < n * sz → cs[off + j]? = xs[j]?
theorem Seg.cases {w : World} {e : TypeId} {sz n : Nat} {v : Value} {xs : List Value} {S : List Nat} (h : Seg w e sz v n xs S) :
    (v = .slice none 0 0 ∧ n = 0 ∧ xs = [] ∧ S = []) ∨ ∃ g off cap, v = .slice (some ⟨g, off, none⟩) n cap ∧ S = [g] ∧ SegL w e sz g off n cap xs := by
  rcases h with ⟨hl, ⟨rfl, rfl, rfl⟩ | ⟨g, off, cap, cs, rfl, rfl, hb, hs, hn, hm, hx⟩⟩
  · exact .inl ⟨rfl, rfl, List.eq_nil_of_length_eq_zero (by simpa using hl), rfl⟩
  · exact .inr ⟨g, off, cap, rfl, rfl, hl, hn, hm, cs, hb, hs, hx⟩
section
variable {w w' : World} {e : TypeId} {sz g off n cap : Nat} {xs : List Value}
theorem SegL.seg (h : SegL w e sz g off n cap xs) : Seg w e sz (.slice (some ⟨g, off, none⟩) n cap) n xs [g] :=
  let ⟨hl, hn, hm, cs, hb, hs, hx⟩ := h; ⟨hl, .inr ⟨g, off, cap, cs, rfl, rfl, hb, hs, hn, hm, hx⟩⟩
theorem SegL.lt (h : SegL w e sz g off n cap xs) : g < w.heap.size := let ⟨_, _, _, _, hb, _⟩ := h; hb.lt
theorem SegL.keeps (h : SegL w e sz g off n cap xs) {S : List Nat} (k : Keeps S w w') (hg : g ∉ S) : SegL w' e sz g off n cap xs :=
  let ⟨hl, hn, hm, cs, hb, hs, hx⟩ := h; ⟨hl, hn, hm, cs, hb.keeps k hg, hs, hx⟩
theorem SegL.below (h : SegL w e sz g off n cap xs) (hb : Below w.heap.size w w') : SegL w' e sz g off n cap xs := h.keeps (Keeps.of_below (S := []) hb) (by simp)
theorem SegL.block (h : SegL w e sz g off n cap xs) : ∃ cs fr, w.heap[g]? = some (.cells cs e fr) := let ⟨_, _, _, cs, hb, _⟩ := h; ⟨cs, (0, 0), hb⟩
theorem SegL.sl (h : SegL w e sz g off n cap xs) : SlP w e (.slice (some ⟨g, off, none⟩) n cap) n xs := h.seg.sl
/-- Cells written over the cells from k on. -/
def over (xs : List Value) (k : Nat) (vs : List Value) : List Value := xs.take k ++ vs ++ xs.drop (k + vs.length)
theorem over_len {xs vs : List Value} {k : Nat} (h : k + vs.length ≤ xs.length) : (over xs k vs).length = xs.length := by
  unfold over
  simp
  omega
theorem over_get {xs vs : List Value} {k j : Nat} (h : k + vs.length ≤ xs.length) : (over xs k vs)[j]? = if k ≤ j ∧ j < k + vs.length then vs[j - k]? else xs[j]? := by
  unfold over
  by_cases h1 : j < k
  · rw [List.append_assoc, List.getElem?_append_left (by simp; omega), List.getElem?_take, if_pos h1, if_neg (by omega)]
  · by_cases h2 : j < k + vs.length
    · rw [List.getElem?_append_left (by simp; omega), List.getElem?_append_right (by simp; omega), if_pos (by omega)]
      congr 1
      simp
      omega
    · rw [List.getElem?_append_right (by simp; omega), if_neg (by omega), List.getElem?_drop]
      congr 1
      simp
      omega
theorem SegL.write (h : SegL w e sz g off n cap xs) {k : Nat} {vs : List Value} (hk : k + vs.length ≤ n * sz) : SegL (w.setCells g (off + k) vs) e sz g off n cap (over xs k vs) ∧ Keeps [g] w (w.setCells g (off + k) vs) := by
  obtain ⟨hl, hn, hm, cs, hb, hs, hx⟩ := h
  have hle : n * sz ≤ cap * sz := Nat.mul_le_mul_right _ hn
  refine ⟨⟨by rw [over_len (by omega)]; exact hl, hn, hm, _, hb.setCells vs (off + k), by rw [splice_size]; exact hs, fun j hj => ?_⟩, Keeps.setCells (.inl (by simp)) vs (off + k) (Keeps.refl _ _)⟩
  rw [splice_get _ _ _ _ (by omega), over_get (by omega)]
  by_cases hc : k ≤ j ∧ j < k + vs.length
  · rw [if_pos (by omega), if_pos hc]
    congr 1
    omega
  · rw [if_neg (by omega), if_neg hc]
    exact hx j hj
theorem SegL.there (h : SegL w e sz g off n cap xs) {k m : Nat} (hk : k + m ≤ n * sz) : w.there g (off + k) m := by
  obtain ⟨hl, hn, hm, cs, hb, hs, hx⟩ := h
  have hle : n * sz ≤ cap * sz := Nat.mul_le_mul_right _ hn
  exact hb.there (by omega)
end
theorem over_flat (D : List Sm) {k : Nat} (x : Sm) (hk : k < D.length) : over (flat D) (k * 32) x.enc = flat (D.set k x) := by
  unfold over
  rw [enc_len, show k * 32 + 32 = (k + 1) * 32 by omega, flat_take, flat_drop, List.set_eq_take_append_cons_drop, if_pos hk]
  simp [flat]

section
variable {P : Program} {w0 : World} {Γ : Ctx} {o : Oper}
/-- The address of an element of a row of the call's own. -/
theorem cIndexEx {t e : TypeId} {x ix : Operand} {g off n c k sz : Nat} {kd : IntKind} (ho : o.op = .indexAddr t x ix) (hx : OpT Γ x (Ty.ex (.slice (some ⟨g, off, none⟩) n c))) (hi : OpT Γ ix (Ty.ex (.int kd (k : Int)))) (hu : P.underlying t = some (.slice e)) (hz : (P.info? e).map (·.size) = some sz) (hk : k < n) : OpOk P w0 Γ o (Ty.ex (.pointer (some ⟨g, off + k * sz, none⟩))) :=
  .val fun a w _ hs => by
    obtain ⟨v, h1, h2⟩ := hs x _ (by simp [ho, Op.operands]) hx
    obtain ⟨i, h5, h6⟩ := hs ix _ (by simp [ho, Op.operands]) hi
    have h2 : v = .slice (some ⟨g, off, none⟩) n c := h2
    have h6 : i = .int kd (k : Int) := h6
    obtain ⟨inf, hinf, hsz⟩ := Option.map_eq_some_iff.1 hz
    refine ⟨_, rfl, ?_⟩
    unfold execOp
    simp [ho, h1, h2, h5, h6, Instr.indexAt, asIntOf, run_underlying hu, hk, sizeOf, typeInfo, hinf, hsz, Addr.add_lit]
theorem cLenEx {x : Operand} {A : Option Addr} {n c : Nat} {t d : TypeId} (ho : o.op = .call { callee := .builtin .len, args := #[x], argTypes := #[t] }) (hx : OpT Γ x (Ty.ex (.slice A n c))) (hu : P.underlying t = some (.slice d)) : OpOk P w0 Γ o (Ty.ex (.int .i64 (n : Int))) :=
  cLenH ho (.t hx) (fun _ _ e => ⟨A, c, e⟩) hu
/-- xs[k:], xs[:k] of a row of the call's own. -/
theorem cSliceLoEx {t e : TypeId} {x lo : Operand} {g off n c k sz : Nat} {kd : IntKind} (ho : o.op = .slice t x (some lo) none none) (hx : OpT Γ x (Ty.ex (.slice (some ⟨g, off, none⟩) n c))) (hl : OpT Γ lo (Ty.ex (.int kd (k : Int)))) (hu : P.underlying t = some (.slice e)) (hz : (P.info? e).map (·.size) = some sz) (hk : k < n) (hn : n ≤ c) : OpOk P w0 Γ o (Ty.ex (.slice (some ⟨g, off + k * sz, none⟩) (n - k) (c - k))) :=
  .val fun a w _ hs => by
    obtain ⟨v, h1, h2⟩ := hs x _ (by simp [ho, Op.operands]) hx
    obtain ⟨i, h5, h6⟩ := hs lo _ (by simp [ho, Op.operands]) hl
    have h2 : v = .slice (some ⟨g, off, none⟩) n c := h2
    have h6 : i = .int kd (k : Int) := h6
    obtain ⟨inf, hinf, hsz⟩ := Option.map_eq_some_iff.1 hz
    refine ⟨_, rfl, ?_⟩
    have hne : ¬ c = k := by omega
    have hkn : k ≤ n := by omega
    unfold execOp
    simp [ho, h1, h2, h5, h6, Instr.sliceAt, Instr.slice, Instr.sliceBounds, Instr.sliceBound, asIntOf, run_underlying hu, sizeOf, typeInfo, hinf, hsz, hkn, hne, Addr.add_lit]
theorem cSliceHiEx {t e : TypeId} {x hi : Operand} {g off n c k sz : Nat} {kd : IntKind} (ho : o.op = .slice t x none (some hi) none) (hx : OpT Γ x (Ty.ex (.slice (some ⟨g, off, none⟩) n c))) (hl : OpT Γ hi (Ty.ex (.int kd (k : Int)))) (hu : P.underlying t = some (.slice e)) (hz : (P.info? e).map (·.size) = some sz) (hk : k ≤ c) : OpOk P w0 Γ o (Ty.ex (.slice (some ⟨g, off, none⟩) k c)) :=
  .val fun a w _ hs => by
    obtain ⟨v, h1, h2⟩ := hs x _ (by simp [ho, Op.operands]) hx
    obtain ⟨i, h5, h6⟩ := hs hi _ (by simp [ho, Op.operands]) hl
    have h2 : v = .slice (some ⟨g, off, none⟩) n c := h2
    have h6 : i = .int kd (k : Int) := h6
    obtain ⟨inf, hinf, hsz⟩ := Option.map_eq_some_iff.1 hz
    refine ⟨_, rfl, ?_⟩
    unfold execOp
    by_cases h0 : c = 0
    · subst h0
      obtain rfl : k = 0 := by omega
      simp [ho, h1, h2, h5, h6, Instr.sliceAt, Instr.slice, Instr.sliceBounds, Instr.sliceBound, asIntOf, run_underlying hu, sizeOf, typeInfo, hinf]
    · simp [ho, h1, h2, h5, h6, Instr.sliceAt, Instr.slice, Instr.sliceBounds, Instr.sliceBound, asIntOf, run_underlying hu, sizeOf, typeInfo, hinf, hk, Addr.add]
/-- '== nil' -/
theorem cEqlNil {t e t2 : TypeId} {x : Operand} {A : Option Addr} {n c : Nat} (ho : o.op = .binOp .eql t x (.const (.slice none 0 0)) t2) (hx : OpT Γ x (Ty.ex (.slice A n c))) (hu : P.underlying t = some (.slice e)) : OpOk P w0 Γ o (Ty.ex (.bool A.isNone)) :=
  cBin ho hx rfl fun w => by
    have hg : (eqGuard .eql t x (.const (.slice none 0 0)) (.slice A n c) (.slice none 0 0)).run P w = .ok () w := by simp [eqGuard]
    rw [Sem.run_bind, hg]
    exact Lib.run_eql_slice_nil w t e A n c 0 0 hu
/-- A slice of no element, with no room: of the call's own. -/
theorem cBuild0 {t e : TypeId} {z : Value} {sz bytes : Nat} (ho : o.op = .buildSlice t 0 #[]) (hu : P.underlying t = some (.slice e)) (hi : (P.info? e).map (fun i => (i.zero, i.size, i.bytes)) = some (some z, sz, bytes)) : OpOk P w0 Γ o (Ty.seg w0 e sz 0 []) :=
  .new fun a w hb _ => by
    have hr := run_buildSlice (P := P) 0 [] hu hi rfl (by simp) (by omega) w
    refine ⟨.slice (some ⟨w.heap.size, 0, none⟩) 0 0, w.alloc (.cells #[] e), ⟨[w.heap.size], ⟨by simp, .inr ⟨w.heap.size, 0, 0, #[], rfl, rfl, Blk.new w _ _, by simp, Nat.le_refl _, by simp [maxLen], fun j hj => by omega⟩⟩, fun y hy => ?_⟩, ((Keeps.refl [] w).alloc _).below, ?_⟩
    · simp only [List.mem_singleton] at hy
      subst hy
      exact hb.size
    · unfold execOp
      simp only [ho]
      rw [Sem.run_bind]
      have e1 : ((#[] : Array (Nat × Operand)).map fun (i, x) => (i, a.eval x)) = (([] : List Value).zipIdx.map fun p => (p.2, p.1)).toArray := by simp
      rw [e1, hr]
      rfl

/-- Calls that hand back a row of the call's own. -/
structure FnSeg1 (P : Program) (f : FuncId) (τ : Ty) (e : TypeId) (sz n : Nat) (xs : List Value) : Prop where
  en : Enters P f
  ret : ∀ w v, τ.p w v → Ret P f #[v] w (Ty.seg w e sz n xs)
theorem seg_old {w1 w2 : World} (hs : w1.heap.size ≤ w2.heap.size) {e : TypeId} {sz n : Nat} {xs : List Value} : ∀ w v, (Ty.seg w2 e sz n xs).p w v → (Ty.seg w1 e sz n xs).p w v := fun _ _ ⟨S, h, hS⟩ => ⟨S, h, fun y hy => Nat.le_trans hs (hS y hy)⟩
theorem cCallS1 {f : FuncId} {ats : Array TypeId} {x : Operand} {τ : Ty} {e : TypeId} {sz n : Nat} {xs : List Value} (ho : o.op = .call { callee := .value (.func f), args := #[x], argTypes := ats }) (hx : Has w0 Γ x τ) (hc : FnSeg1 P f τ e sz n xs) : OpOk P w0 Γ o (Ty.seg w0 e sz n xs) :=
  .call fun a w hb hs => by
    obtain ⟨v, h1, h2⟩ := hx.see hs (by simp [ho, Op.operands, Call.operands]) hb
    refine ⟨f, #[v], ?_, (hc.ret w v h2).mono (seg_old hb.size)⟩
    rw [exec_go a.eval ho rfl]
    simp only [List.map_toArray, List.map_cons, List.map_nil, h1]
    exact hc.en _ w
end

section
variable {P : Program} {ops : Array Oper} {Q : Exit → Act → World → Prop} {rest : List Oper} {o : Oper} {a : Act} {w : World} {N : Nat} {Γ : Ctx}
/-- A sum is stored into an element of a row of the call's own. -/
theorem tlStoreAt {Δ : Ctx} {ty e : TypeId} {p s : Nat} {sz g off n cap k : Nat} {xs : List Value} {cells : Array Value} (hF : Fr N Γ a w) (hg : o.guard = none) (hd : o.dst = none) (ho : o.op = .store ty (.tmp p) (.tmp s)) (hp : look Γ p = some (Ty.ex (.pointer (some ⟨g, off + k, none⟩)))) (hs : look Γ s = some (Ty.ex (.agg cells)))
    (hseg : SegL w e sz g off n cap xs) (hk : k + cells.size ≤ n * sz) (hi : (P.info? ty).map (·.size) = some cells.size) (h1 : cells.all (·.oneCell') = true) (hΔ : Fr N Δ a w) (hfree : Δ.free e = true)
    (hq : ∀ w', Fr N Δ a w' → SegL w' e sz g off n cap (over xs k cells.toList) → Keeps [g] w w' → wpList P ops Q rest a w') : wpList P ops Q (o :: rest) a w := by
  refine wpList_store_mid hg ty (.tmp p) (.tmp s) ho g (off + k) cells (hF.getEx hp) (hF.getEx hs) (hseg.there hk) hi h1 ?_
  rw [hd]
  obtain ⟨h2, h3⟩ := hseg.write (k := k) (vs := cells.toList) (by simpa using hk)
  refine hq _ (hΔ.free h3 (fun b hb _ => ?_) hfree) h2 h3
  simp only [List.mem_singleton] at hb
  subst hb
  exact hseg.block
theorem run_clear_row {t ty e : TypeId} {z : Value} {sz bytes g off n cap m : Nat} {xs : List Value} (ht : P.underlying t = some (.slice e)) (hi : (P.info? e).map (fun i => (i.zero, i.size, i.bytes)) = some (some z, sz, bytes)) (hzs : z.cells.size = sz) (hz1 : ∀ u ∈ z.cells.toList, u.oneCell' = true)
    (hseg : SegL w e sz g off n cap xs) {k : Nat} (hkm : k + m ≤ n) (c : Nat) : ∃ zs : List Value, zs.length = m * sz ∧ (Builtin.clear_ #[t] ty #[.slice (some ⟨g, off + k * sz, none⟩) m c]).run P w = .ok (.tuple #[]) (w.setCells g (off + k * sz) zs) := by
  obtain ⟨inf, hinf, hz, hsz, hby⟩ := info_parts hi
  have hle : k * sz + m * sz ≤ n * sz := by rw [← Nat.add_mul]; exact Nat.mul_le_mul_right _ hkm
  by_cases hm : m = 0
  · subst hm
    refine ⟨[], by simp, ?_⟩
    unfold Builtin.clear_
    simp [run_underlying ht, World.setCells]
  · refine ⟨(Builtin.zeroCells z.cells m).toList, by simp [size_zeroCells, hzs], ?_⟩
    have hzc : ∀ u ∈ (Builtin.zeroCells z.cells m).toList, u.oneCell' = true := by
      intro u hu
      rw [Array.mem_toList_iff] at hu
      obtain ⟨i, hi1, rfl⟩ := Array.getElem_of_mem hu
      simp only [Builtin.zeroCells, Array.size_map, Array.size_range] at hi1
      have hp : 0 < z.cells.size := by
        rcases Nat.eq_zero_or_pos z.cells.size with h | h
        · rw [h] at hi1; simp at hi1
        · exact h
      have hlt : i % z.cells.size < z.cells.size := Nat.mod_lt _ hp
      refine hz1 _ ?_
      simp only [Builtin.zeroCells, Array.getElem_map, Array.getElem_range]
      rw [getElem!_pos z.cells _ hlt, Array.mem_toList_iff]
      exact Array.getElem_mem hlt
    have hth := hseg.there (k := k * sz) (m := m * sz) hle
    have hst := run_storeCells_cells (P := P) g (off + k * sz) (Builtin.zeroCells z.cells m).toList 0 w (fun j hj => by have := (hth j (by simpa [size_zeroCells, hzs] using hj)).1; simpa using this)
      (fun j hj => by have := (hth j (by simpa [size_zeroCells, hzs] using hj)).2; simpa using this) hzc
    unfold Builtin.clear_
    simp only [Nat.add_zero] at hst
    cases m with
    | zero => omega
    | succ m => simp [run_underlying ht, zeroValue, typeInfo, hinf, hz, hst]
end
theorem SegL.take {w : World} {e : TypeId} {sz g off n cap : Nat} {xs : List Value} (h : SegL w e sz g off n cap xs) {k : Nat} (hk : k ≤ n) : SegL w e sz g off k cap (xs.take (k * sz)) := by
  obtain ⟨hl, hn, hm, cs, hb, hs, hx⟩ := h
  have hle : k * sz ≤ n * sz := Nat.mul_le_mul_right _ hk
  refine ⟨by simp; omega, by omega, hm, cs, hb, hs, fun j hj => ?_⟩
  rw [List.getElem?_take, if_pos hj]
  exact hx j (by omega)
/-- What stands behind, read as a slice of its own. -/
theorem SegL.drop_sl {w : World} {e : TypeId} {sz g off n cap : Nat} {xs : List Value} (h : SegL w e sz g off n cap xs) {k : Nat} (hk : k ≤ n) : SlP w e (.slice (some ⟨g, off + k * sz, none⟩) (n - k) (cap - k)) (n - k) (xs.drop (k * sz)) := by
  obtain ⟨hl, hn, hm, cs, hb, hs, hx⟩ := h
  refine ⟨_, cap - k, rfl, by omega, by omega, fun h => (by cases h), fun j u hu => ⟨g, off + k * sz, cs, (0, 0), rfl, hb, ?_⟩⟩
  rw [List.getElem?_drop] at hu
  have hj : k * sz + j < n * sz := by rw [← hl]; exact (List.getElem?_eq_some_iff.1 hu).1
  rw [Nat.add_assoc, hx _ hj, hu]
section
variable {P : Program} {ops : Array Oper} {Q : Exit → Act → World → Prop} {rest : List Oper} {o : Oper} {a : Act} {w : World} {N : Nat} {Γ : Ctx}
theorem tlClear {Δ : Ctx} {t e : TypeId} {s : Nat} {z : Value} {sz bytes g off n cap k m c : Nat} {xs : List Value} (hF : Fr N Γ a w) (hg : o.guard = none) (hd : o.dst = none) (ho : o.op = .call { callee := .builtin .clear, args := #[.tmp s], argTypes := #[t] }) (hs : look Γ s = some (Ty.ex (.slice (some ⟨g, off + k * sz, none⟩) m c)))
    (ht : P.underlying t = some (.slice e)) (hi : (P.info? e).map (fun i => (i.zero, i.size, i.bytes)) = some (some z, sz, bytes)) (hzs : z.cells.size = sz) (hz1 : ∀ u ∈ z.cells.toList, u.oneCell' = true) (hseg : SegL w e sz g off n cap xs) (hkm : k + m ≤ n) (hΔ : Fr N Δ a w) (hfree : Δ.free e = true)
    (hq : ∀ w' zs, zs.length = m * sz → Fr N Δ a w' → SegL w' e sz g off n cap (over xs (k * sz) zs) → Keeps [g] w w' → wpList P ops Q rest a w') : wpList P ops Q (o :: rest) a w := by
  obtain ⟨zs, h1, h2⟩ := run_clear_row (P := P) (ty := o.type) ht hi hzs hz1 hseg hkm c
  have hle : k * sz + m * sz ≤ n * sz := by rw [← Nat.add_mul]; exact Nat.mul_le_mul_right _ hkm
  refine wpList_plain hg fun K hK => ?_
  have hev := hF.getEx hs
  unfold Oper.wp execOp
  simp only [ho, resolve, invoke, builtin, Sem.run_bind, Sem.run_pure, Result.andThen_ok, List.map_toArray, List.map_cons, List.map_nil, hev, h2]
  refine hK _ _ ?_
  rw [hd]
  obtain ⟨h3, h4⟩ := hseg.write (k := k * sz) (vs := zs) (by omega)
  refine hq _ zs h1 (hΔ.free h4 (fun b hb _ => ?_) hfree) h3 h4
  simp only [List.mem_singleton] at hb
  subst hb
  exact hseg.block
/-- A call that acts: what comes of it is told by R. -/
theorem tlCall {d : Nat} {f : FuncId} {xs : Array Operand} {ats : Array TypeId} {args : Array Value} {R : Value → World → Prop} (hg : o.guard = none) (hd : o.dst = some d) (ho : o.op = .call { callee := .value (.func f), args := xs, argTypes := ats }) (hx : xs.map a.eval = args) (he : Enters P f)
    (hc : Calls P f args w fun e w' => ∃ u, e = .returned u ∧ R u w') (hk : ∀ u w', R u w' → wpList P ops Q rest (a.put (some d) u) w') : wpList P ops Q (o :: rest) a w :=
  wpList_plain hg fun K hK => by
    unfold Oper.wp
    rw [exec_go a.eval ho rfl, hx, he args w]
    refine Calls.mono hc fun e w' ⟨u, h1, h2⟩ => ?_
    subst h1
    rw [hd]
    exact hK _ _ (hk u w' h2)
end
theorem Fr.free1 {N : Nat} {Γ : Ctx} {a : Act} {w w' : World} {e : TypeId} {sz g off n cap : Nat} {xs : List Value} (h : Fr N Γ a w) (k : Keeps [g] w w') (hseg : SegL w e sz g off n cap xs) (hf : Γ.free e = true) : Fr N Γ a w' :=
  h.free k (fun b hb _ => by
    simp only [List.mem_singleton] at hb
    subst hb
    exact hseg.block) hf
end Go.Proofs.Ytbjlmhbpcopfbaa

/- Regions by types: calls through function values; shifts, conversions; closures. -/
namespace Go.Proofs.Ytbjlmhbpcopfbaa
open Go.RowKit

section
variable {P : Program} {w0 : World} {Γ : Ctx} {o : Oper}
theorem exec_goV {f : FuncId} {ats : Array TypeId} {x0 : Operand} {xs : Array Operand} {cb : Array Value} (ρ : Operand → Value) (ho : o.op = .call { callee := .value x0, args := xs, argTypes := ats }) (hf : ρ x0 = .func (.func f) #[] cb) : execOp ρ o = callFunc f (xs.map ρ ++ cb) := by
  unfold execOp
  simp only [ho, resolve, hf]
  simp [Deferred.ofValue, invoke]
section
variable {t t2 : TypeId} {x y : Operand} {k : IntKind} {m n : Int}
end
/-- A closure. -/
theorem cMakeFunc {f : FuncId} {x : Operand} {v : Value} (ho : o.op = .makeFunc (.func f) #[] #[x]) (hx : OpT Γ x (Ty.ex v)) : OpOk P w0 Γ o (Ty.ex (.func (.func f) #[] #[v])) :=
  .val fun a w _ hs => by
    obtain ⟨u, h1, h2⟩ := hs x _ (by simp [ho, Op.operands]) hx
    have h2 : u = v := h2
    refine ⟨_, rfl, ?_⟩
    unfold execOp
    simp [ho, h1, h2, Instr.makeFunc]
end
end Go.Proofs.Ytbjlmhbpcopfbaa

/- Regions by types: boxes, stores of whatever values. -/
namespace Go.Proofs.Ytbjlmhbpcopfbaa
open Go.RowKit

def Ty.any : Ty := ⟨fun _ _ => True, fun _ => false, fun _ _ _ => True.intro⟩
theorem blk_at {w : World} {g : Nat} {t : TypeId} {cs : Array Value} (h : Blk w g t cs) : (Ty.at_ t cs.toList).p w (.pointer (some ⟨g, 0, none⟩)) := ⟨g, 0, cs, (0, 0), rfl, h, fun j u hu => by rw [Nat.zero_add]; simpa using hu⟩
theorem run_alloc_i {P : Program} {t : TypeId} {z : Value} {sz b : Nat} (hi : (P.info? t).map (fun i => (i.zero, i.size, i.bytes)) = some (some z, sz, b)) (w : World) : (Instr.alloc t true (.tuple #[])).run P w = .ok (.pointer (some ⟨w.heap.size, 0, none⟩)) (w.alloc (.cells z.cells t)) := by
  obtain ⟨i, h1, h2⟩ := Option.map_eq_some_iff.1 hi
  simp only [Prod.mk.injEq] at h2
  simp [go_sem, zeroValue, typeInfo, h1, h2.1, newVar, newRow, Instr.alloc]
section
variable {P : Program} {w0 : World} {Γ : Ctx} {o : Oper}
theorem OpOk.b {b c : Bool} (h : OpOk P w0 Γ o (Ty.ex (.bool b))) (e : b = c) : OpOk P w0 Γ o (Ty.ex (.bool c)) := e ▸ h
end
section
variable {P : Program} {ops : Array Oper} {Q : Exit → Act → World → Prop} {rest : List Oper} {o : Oper} {a : Act} {w : World} {N : Nat} {Γ : Ctx}
theorem storeVar_cells (ty : TypeId) (ad : Addr) (v : Value) : storeVar ty ad v = storeVar ty ad (.agg v.cells) := rfl
/-- Whatever value is stored over a variable of the call's own. -/
theorem tlStoreV {ty t : TypeId} {p : Nat} {y : Operand} {g : Nat} {cs : Array Value} {v : Value} {Δ : Ctx} (hF : Fr N Γ a w) (hg : o.guard = none) (hd : o.dst = none) (ho : o.op = .store ty (.tmp p) y) (hp : look Γ p = some (Ty.ex (.pointer (some ⟨g, 0, none⟩)))) (hy : a.eval y = v)
    (hB : Blk w g t cs) (hcs : v.cells.size = cs.size) (hi : (P.info? ty).map (·.size) = some v.cells.size) (h1 : v.cells.all (·.oneCell') = true) (hΔ : Fr N Δ a w) (hfree : Δ.free t = true)
    (hk : ∀ w', Fr N Δ a w' → Blk w' g t v.cells → Keeps [g] w w' → wpList P ops Q rest a w') : wpList P ops Q (o :: rest) a w := by
  refine wpList_plain hg fun K hK => ?_
  unfold Oper.wp execOp
  simp only [ho, hF.getEx hp, hy, Instr.storeAt, Instr.sureAddr, Sem.run_bind, Sem.run_pure, Result.andThen_ok, storeVar_cells ty _ v, run_storeVar_mid w g 0 ty v.cells (hB.there (by omega)) hi h1]
  have h2 := hB.setCells v.cells.toList 0
  rw [splice_all _ _ (by simpa using hcs)] at h2
  have h3 : Keeps [g] w (w.setCells g 0 v.cells.toList) := Keeps.setCells (.inl (by simp)) _ _ (Keeps.refl _ _)
  refine hK _ _ ?_
  rw [hd]
  refine hk _ (hΔ.free h3 (fun b hb _ => ?_) hfree) (by simpa using h2) h3
  simp only [List.mem_singleton] at hb
  subst hb
  exact ⟨cs, (0, 0), hB⟩
end
end Go.Proofs.Ytbjlmhbpcopfbaa

/- Regions by types: known slots; small lines. -/
namespace Go.Proofs.Ytbjlmhbpcopfbaa
open Go.RowKit

section
variable {P : Program} {w0 : World} {Γ : Ctx} {o : Oper}
theorem cBuildP {t : TypeId} {parts : Array (Nat × Operand)} {vs : Array (Nat × Value)} {v : Value} (ho : o.op = .build t parts) (hp : ∀ (a : Act) (w : World), SeesO Γ o a w → (parts.map fun (i, x) => (i, a.eval x)) = vs) (hr : ∀ w : World, (Instr.build t vs).run P w = .ok v w) : OpOk P w0 Γ o (Ty.ex v) :=
  .val fun a w _ hs => ⟨v, rfl, by unfold execOp; simp only [ho, hp a w hs]; simp [hr w]⟩
theorem cCallX2 {f : FuncId} {ats : Array TypeId} {x y : Operand} {v u : Value} {ρ : Ty} (ho : o.op = .call { callee := .value (.func f), args := #[x, y], argTypes := ats }) (hx : OpT Γ x (Ty.ex v)) (hy : OpT Γ y (Ty.ex u)) (he : Enters P f) (hc : ∀ w, Below w0.heap.size w0 w → Ret P f #[v, u] w ρ) : OpOk P w0 Γ o ρ :=
  cCallW2 ho hx hy he fun w v' u' hb hv hu => by have hv : v' = v := hv; have hu : u' = u := hu; subst hv hu; exact hc w hb
end
end Go.Proofs.Ytbjlmhbpcopfbaa

/- Words of thirty-two bits over naturals; SHA-256 as a plain function of lists of naturals. -/
namespace Go.Proofs.Ytbjlmhbpcopfbaa
open Go.RowKit

def x32 (a b : Nat) : Nat := (a ^^^ b) % 4294967296
def a32 (a b : Nat) : Nat := (a + b) % 4294967296
def n32 (a b : Nat) : Nat := (a &&& b) % 4294967296
def o32 (a b : Nat) : Nat := (a ||| b) % 4294967296
def c32 (a : Nat) : Nat := 4294967295 - a % 4294967296
def r32 (a n : Nat) : Nat := a / 2 ^ n
def l32 (a n : Nat) : Nat := a * 2 ^ n % 4294967296
def rot (a n : Nat) : Nat := o32 (l32 a (32 - n)) (r32 a n)

theorem ofInt32 (a : Nat) : (BitVec.ofInt 32 (a : Int)).toNat = a % 4294967296 := by
  rw [BitVec.ofInt_natCast, BitVec.toNat_ofNat]
theorem x32_eq (a b : Nat) : bits .xor .u32 (a : Int) (b : Int) = ((x32 a b : Nat) : Int) := by
  show IntKind.u32.wrap ((BitVec.ofInt 32 (a : Int) ^^^ BitVec.ofInt 32 (b : Int)).toNat : Int) = _
  rw [BitVec.toNat_xor, ofInt32, ofInt32, IntKind.wrap_u32']
  have h : a % 4294967296 ^^^ b % 4294967296 = (a ^^^ b) % 4294967296 := (Nat.xor_mod_two_pow (n := 32)).symm
  unfold x32
  rw [h]
  omega
theorem n32_eq (a b : Nat) : bits .and .u32 (a : Int) (b : Int) = ((n32 a b : Nat) : Int) := by
  show IntKind.u32.wrap ((BitVec.ofInt 32 (a : Int) &&& BitVec.ofInt 32 (b : Int)).toNat : Int) = _
  rw [BitVec.toNat_and, ofInt32, ofInt32, IntKind.wrap_u32']
  have h : a % 4294967296 &&& b % 4294967296 = (a &&& b) % 4294967296 := (Nat.and_mod_two_pow (n := 32)).symm
  unfold n32
  rw [h]
  omega
theorem o32_eq (a b : Nat) : bits .or .u32 (a : Int) (b : Int) = ((o32 a b : Nat) : Int) := by
  show IntKind.u32.wrap ((BitVec.ofInt 32 (a : Int) ||| BitVec.ofInt 32 (b : Int)).toNat : Int) = _
  rw [BitVec.toNat_or, ofInt32, ofInt32, IntKind.wrap_u32']
  have h : a % 4294967296 ||| b % 4294967296 = (a ||| b) % 4294967296 := (Nat.or_mod_two_pow (n := 32)).symm
  unfold o32
  rw [h]
  omega
theorem a32_eq (a b : Nat) : ((a : Int) + (b : Int)) % 4294967296 = ((a32 a b : Nat) : Int) := by
  unfold a32
  omega
theorem a32_eq' (a b : Nat) : IntKind.u32.wrap ((a : Int) + (b : Int)) = ((a32 a b : Nat) : Int) := by
  rw [IntKind.wrap_u32']
  exact a32_eq a b
theorem c32_eq (a : Nat) : bits .xor .u32 IntKind.u32.max (a : Int) = ((c32 a : Nat) : Int) := by
  show IntKind.u32.wrap ((BitVec.allOnes 32 ^^^ BitVec.ofInt 32 (a : Int)).toNat : Int) = _
  rw [BitVec.allOnes_xor, BitVec.toNat_not, ofInt32, IntKind.wrap_u32']
  unfold c32
  omega
theorem a32_e2 (x c k w u : Nat) : ((x : Int) + (c : Int) + (k : Int) + (w : Int) + (u : Int)) % 4294967296 = ((a32 (a32 (a32 (a32 x c) k) w) u : Nat) : Int) := by unfold a32; omega
theorem a32_e3 (d x c k w : Nat) : ((d : Int) + ((x : Int) + (c : Int) + (k : Int) + (w : Int))) % 4294967296 = ((a32 d (a32 (a32 (a32 x c) k) w) : Nat) : Int) := by unfold a32; omega
theorem r32_eq (n : Nat) (k : Int) (hk : ((2 ^ n : Nat) : Int) = k) (a : Nat) : (a : Int) / k = ((r32 a n : Nat) : Int) := by
  subst hk
  unfold r32
  rw [Int.natCast_ediv]
theorem l32_eq (n : Nat) (k : Int) (hk : ((2 ^ n : Nat) : Int) = k) (a : Nat) : (a : Int) * k % 4294967296 = ((l32 a n : Nat) : Int) := by
  subst hk
  unfold l32
  omega
theorem l32_eq' (n : Nat) (k : Int) (hk : ((2 ^ n : Nat) : Int) = k) (a : Nat) : IntKind.u32.wrap ((a : Int) * k) = ((l32 a n : Nat) : Int) := by
  rw [IntKind.wrap_u32']
  exact l32_eq n k hk a
theorem w32_byte {a : Nat} (h : a < 256) : IntKind.u32.wrap (a : Int) = (a : Int) := by rw [IntKind.wrap_u32']; omega
theorem add_pos (a : Addr) (n : Nat) (h : n ≠ 0) : a.add n = ⟨a.block, a.off + n, none⟩ := by unfold Addr.add; rw [if_neg h]
/-- Each round's own number. -/
def keysS : List Nat := [0x428a2f98, 0x71374491, 0xb5c0fbcf, 0xe9b5dba5, 0x3956c25b, 0x59f111f1, 0x923f82a4, 0xab1c5ed5, 0xd807aa98, 0x12835b01, 0x243185be, 0x550c7dc3, 0x72be5d74, 0x80deb1fe, 0x9bdc06a7, 0xc19bf174, 0xe49b69c1, 0xefbe4786, 0x0fc19dc6, 0x240ca1cc, 0x2de92c6f, 0x4a7484aa, 0x5cb0a9dc, 0x76f988da, 0x983e5152, 0xa831c66d, 0xb00327c8, 0xbf597fc7, 0xc6e00bf3, 0xd5a79147, 0x06ca6351, 0x14292967, 0x27b70a85, 0x2e1b2138, 0x4d2c6dfc, 0x53380d13, 0x650a7354, 0x766a0abb, 0x81c2c92e, 0x92722c85, 0xa2bfe8a1, 0xa81a664b, 0xc24b8b70, 0xc76c51a3, 0xd192e819, 0xd6990624, 0xf40e3585, 0x106aa070, 0x19a4c116, 0x1e376c08, 0x2748774c, 0x34b0bcb5, 0x391c0cb3, 0x4ed8aa4a, 0x5b9cca4f, 0x682e6ff3, 0x748f82ee, 0x78a5636f, 0x84c87814, 0x8cc70208, 0x90befffa, 0xa4506ceb, 0xbef9a3f7, 0xc67178f2]
def beginS : List Nat := [0x6a09e667, 0xbb67ae85, 0x3c6ef372, 0xa54ff53a, 0x510e527f, 0x9b05688c, 0x1f83d9ab, 0x5be0cd19]

/-- Four bytes as a word. -/
def word4 (a b c d : Nat) : Nat := o32 (o32 (o32 (l32 a 24) (l32 b 16)) (l32 c 8)) d
/-- A word of those before it. -/
def wordN (p a q c : Nat) : Nat := a32 (a32 (a32 p (x32 (x32 (rot a 7) (rot a 18)) (r32 a 3))) q) (x32 (x32 (rot c 17) (rot c 19)) (r32 c 10))
/-- The words of the first n rounds. -/
def wordsS (b : List Nat) : Nat → List Nat
  | 0 => []
  | n + 1 =>
    let w := wordsS b n
    w ++ [if n < 16 then word4 (b.getD (4 * n) 0) (b.getD (4 * n + 1) 0) (b.getD (4 * n + 2) 0) (b.getD (4 * n + 3) 0)
      else wordN (w.getD (n - 16) 0) (w.getD (n - 15) 0) (w.getD (n - 7) 0) (w.getD (n - 2) 0)]
theorem wordsS_len (b : List Nat) : ∀ n, (wordsS b n).length = n
  | 0 => rfl
  | n + 1 => by simp [wordsS, wordsS_len b n]

/-- The two sums of a round. -/
def sumE (e f g h k w : Nat) : Nat := a32 (a32 (a32 (a32 h (x32 (x32 (rot e 6) (rot e 11)) (rot e 25))) (x32 (n32 e f) (n32 (c32 e) g))) k) w
def sumA (a b c : Nat) : Nat := a32 (x32 (x32 (rot a 2) (rot a 13)) (rot a 22)) (x32 (x32 (n32 a b) (n32 a c)) (n32 b c))
def roundS (k w : Nat) : List Nat → List Nat
  | [a, b, c, d, e, f, g, h] => [a32 (sumE e f g h k w) (sumA a b c), a, b, c, a32 d (sumE e f g h k w), e, f, g]
  | v => v
/-- The state behind n rounds. -/
def roundsS (ws v : List Nat) : Nat → List Nat
  | 0 => v
  | n + 1 => roundS (keysS.getD n 0) (ws.getD n 0) (roundsS ws v n)
theorem roundS_len (k w : Nat) (v : List Nat) (h : v.length = 8) : (roundS k w v).length = 8 := by
  unfold roundS
  split
  · rfl
  · exact h
theorem roundsS_len (ws v : List Nat) (h : v.length = 8) : ∀ n, (roundsS ws v n).length = 8
  | 0 => h
  | n + 1 => roundS_len _ _ _ (roundsS_len ws v h n)
def blockS (h b : List Nat) : List Nat := List.zipWith a32 h (roundsS (wordsS b 64) h 64)
theorem blockS_len (h b : List Nat) (hl : h.length = 8) : (blockS h b).length = 8 := by
  unfold blockS
  rw [List.length_zipWith, roundsS_len _ _ hl, hl]
  rfl
def blocksS (h : List Nat) : Nat → List Nat → List Nat
  | 0, _ => h
  | n + 1, p => blocksS (blockS h (p.take 64)) n (p.drop 64)
theorem blocksS_len : ∀ (n : Nat) (h p : List Nat), h.length = 8 → (blocksS h n p).length = 8
  | 0, _, _, hl => hl
  | n + 1, h, _, hl => blocksS_len n _ _ (blockS_len h _ hl)
/-- How many noughts are laid behind. -/
def fillS (n : Nat) : Nat := (119 - n % 64) % 64
def lenS (n : Nat) : List Nat := [n / 72057594037927936 % 256, n / 281474976710656 % 256, n / 1099511627776 % 256, n / 4294967296 % 256, n / 16777216 % 256, n / 65536 % 256, n / 256 % 256, n % 256]
def padS (l : List Nat) : List Nat := l ++ [128] ++ List.replicate (fillS l.length) 0 ++ lenS (l.length * 8)
def bytes4 (x : Nat) : List Nat := [x / 16777216 % 256, x / 65536 % 256, x / 256 % 256, x % 256]
def shaL (l : List Nat) : List Nat := (blocksS beginS ((padS l).length / 64) (padS l)).flatMap bytes4
theorem flat4_len (l : List Nat) : (l.flatMap bytes4).length = 4 * l.length := by
  induction l with
  | nil => rfl
  | cons x l ih => rw [List.flatMap_cons, List.length_append, ih, List.length_cons]; simp only [bytes4, List.length_cons, List.length_nil]; omega
theorem shaL_len (l : List Nat) : (shaL l).length = 32 := by
  unfold shaL
  rw [flat4_len, blocksS_len _ _ _ (by rfl)]
theorem shaL_lt (l : List Nat) : ∀ x ∈ shaL l, x < 256 := by
  intro x hx
  obtain ⟨y, _, hy⟩ := List.mem_flatMap.1 hx
  simp only [bytes4, List.mem_cons, List.not_mem_nil, or_false] at hy
  omega
end Go.Proofs.Ytbjlmhbpcopfbaa

/- Walks: math/bits.RotateLeft32 and the reference's turned, at the widths in use. -/
namespace Go.Proofs.Ytbjlmhbpcopfbaa
open Go.RowKit

theorem rot2_any (x : Nat) (w : World) :
    Calls Try.prog 51 #[.int .u32 x, .int .i64 (-2)] w fun e w' => e = .returned (.int .u32 (rot x 2)) ∧ w = w' := by
  have h1 := o32_eq
  have h2 : bits .and .u64 (IntKind.u64.wrap (-2)) 31 = 30 := by decide +kernel
  have h3 := r32_eq 2 4 (by decide)
  have h4 := l32_eq 30 1073741824 (by decide)
  go_enter Try.func51, Try.ntmps51
  go_wp2
  go_ret
  exact ⟨rfl, rfl⟩
theorem rot2_q (x : Nat) (w : World) :
    Calls Try.prog 51 #[.int .u32 x, .int .i64 (-2)] w fun e w' => e = .returned (.int .u32 (rot x 2)) ∧ w' = w := (rot2_any x w).mono fun _ _ h => ⟨h.1, h.2.symm⟩
theorem rot6_any (x : Nat) (w : World) :
    Calls Try.prog 51 #[.int .u32 x, .int .i64 (-6)] w fun e w' => e = .returned (.int .u32 (rot x 6)) ∧ w = w' := by
  have h1 := o32_eq
  have h2 : bits .and .u64 (IntKind.u64.wrap (-6)) 31 = 26 := by decide +kernel
  have h3 := r32_eq 6 64 (by decide)
  have h4 := l32_eq 26 67108864 (by decide)
  go_enter Try.func51, Try.ntmps51
  go_wp2
  go_ret
  exact ⟨rfl, rfl⟩
theorem rot6_q (x : Nat) (w : World) :
    Calls Try.prog 51 #[.int .u32 x, .int .i64 (-6)] w fun e w' => e = .returned (.int .u32 (rot x 6)) ∧ w' = w := (rot6_any x w).mono fun _ _ h => ⟨h.1, h.2.symm⟩
theorem rot7_any (x : Nat) (w : World) :
    Calls Try.prog 51 #[.int .u32 x, .int .i64 (-7)] w fun e w' => e = .returned (.int .u32 (rot x 7)) ∧ w = w' := by
  have h1 := o32_eq
  have h2 : bits .and .u64 (IntKind.u64.wrap (-7)) 31 = 25 := by decide +kernel
  have h3 := r32_eq 7 128 (by decide)
  have h4 := l32_eq 25 33554432 (by decide)
  go_enter Try.func51, Try.ntmps51
  go_wp2
  go_ret
  exact ⟨rfl, rfl⟩
theorem rot7_q (x : Nat) (w : World) :
    Calls Try.prog 51 #[.int .u32 x, .int .i64 (-7)] w fun e w' => e = .returned (.int .u32 (rot x 7)) ∧ w' = w := (rot7_any x w).mono fun _ _ h => ⟨h.1, h.2.symm⟩
theorem rot11_any (x : Nat) (w : World) :
    Calls Try.prog 51 #[.int .u32 x, .int .i64 (-11)] w fun e w' => e = .returned (.int .u32 (rot x 11)) ∧ w = w' := by
  have h1 := o32_eq
  have h2 : bits .and .u64 (IntKind.u64.wrap (-11)) 31 = 21 := by decide +kernel
  have h3 := r32_eq 11 2048 (by decide)
  have h4 := l32_eq 21 2097152 (by decide)
  go_enter Try.func51, Try.ntmps51
  go_wp2
  go_ret
  exact ⟨rfl, rfl⟩
theorem rot11_q (x : Nat) (w : World) :
    Calls Try.prog 51 #[.int .u32 x, .int .i64 (-11)] w fun e w' => e = .returned (.int .u32 (rot x 11)) ∧ w' = w := (rot11_any x w).mono fun _ _ h => ⟨h.1, h.2.symm⟩
theorem rot13_any (x : Nat) (w : World) :
    Calls Try.prog 51 #[.int .u32 x, .int .i64 (-13)] w fun e w' => e = .returned (.int .u32 (rot x 13)) ∧ w = w' := by
  have h1 := o32_eq
  have h2 : bits .and .u64 (IntKind.u64.wrap (-13)) 31 = 19 := by decide +kernel
  have h3 := r32_eq 13 8192 (by decide)
  have h4 := l32_eq 19 524288 (by decide)
  go_enter Try.func51, Try.ntmps51
  go_wp2
  go_ret
  exact ⟨rfl, rfl⟩
theorem rot13_q (x : Nat) (w : World) :
    Calls Try.prog 51 #[.int .u32 x, .int .i64 (-13)] w fun e w' => e = .returned (.int .u32 (rot x 13)) ∧ w' = w := (rot13_any x w).mono fun _ _ h => ⟨h.1, h.2.symm⟩
theorem rot17_any (x : Nat) (w : World) :
    Calls Try.prog 51 #[.int .u32 x, .int .i64 (-17)] w fun e w' => e = .returned (.int .u32 (rot x 17)) ∧ w = w' := by
  have h1 := o32_eq
  have h2 : bits .and .u64 (IntKind.u64.wrap (-17)) 31 = 15 := by decide +kernel
  have h3 := r32_eq 17 131072 (by decide)
  have h4 := l32_eq 15 32768 (by decide)
  go_enter Try.func51, Try.ntmps51
  go_wp2
  go_ret
  exact ⟨rfl, rfl⟩
theorem rot17_q (x : Nat) (w : World) :
    Calls Try.prog 51 #[.int .u32 x, .int .i64 (-17)] w fun e w' => e = .returned (.int .u32 (rot x 17)) ∧ w' = w := (rot17_any x w).mono fun _ _ h => ⟨h.1, h.2.symm⟩
theorem rot18_any (x : Nat) (w : World) :
    Calls Try.prog 51 #[.int .u32 x, .int .i64 (-18)] w fun e w' => e = .returned (.int .u32 (rot x 18)) ∧ w = w' := by
  have h1 := o32_eq
  have h2 : bits .and .u64 (IntKind.u64.wrap (-18)) 31 = 14 := by decide +kernel
  have h3 := r32_eq 18 262144 (by decide)
  have h4 := l32_eq 14 16384 (by decide)
  go_enter Try.func51, Try.ntmps51
  go_wp2
  go_ret
  exact ⟨rfl, rfl⟩
theorem rot18_q (x : Nat) (w : World) :
    Calls Try.prog 51 #[.int .u32 x, .int .i64 (-18)] w fun e w' => e = .returned (.int .u32 (rot x 18)) ∧ w' = w := (rot18_any x w).mono fun _ _ h => ⟨h.1, h.2.symm⟩
theorem rot19_any (x : Nat) (w : World) :
    Calls Try.prog 51 #[.int .u32 x, .int .i64 (-19)] w fun e w' => e = .returned (.int .u32 (rot x 19)) ∧ w = w' := by
  have h1 := o32_eq
  have h2 : bits .and .u64 (IntKind.u64.wrap (-19)) 31 = 13 := by decide +kernel
  have h3 := r32_eq 19 524288 (by decide)
  have h4 := l32_eq 13 8192 (by decide)
  go_enter Try.func51, Try.ntmps51
  go_wp2
  go_ret
  exact ⟨rfl, rfl⟩
theorem rot19_q (x : Nat) (w : World) :
    Calls Try.prog 51 #[.int .u32 x, .int .i64 (-19)] w fun e w' => e = .returned (.int .u32 (rot x 19)) ∧ w' = w := (rot19_any x w).mono fun _ _ h => ⟨h.1, h.2.symm⟩
theorem rot22_any (x : Nat) (w : World) :
    Calls Try.prog 51 #[.int .u32 x, .int .i64 (-22)] w fun e w' => e = .returned (.int .u32 (rot x 22)) ∧ w = w' := by
  have h1 := o32_eq
  have h2 : bits .and .u64 (IntKind.u64.wrap (-22)) 31 = 10 := by decide +kernel
  have h3 := r32_eq 22 4194304 (by decide)
  have h4 := l32_eq 10 1024 (by decide)
  go_enter Try.func51, Try.ntmps51
  go_wp2
  go_ret
  exact ⟨rfl, rfl⟩
theorem rot22_q (x : Nat) (w : World) :
    Calls Try.prog 51 #[.int .u32 x, .int .i64 (-22)] w fun e w' => e = .returned (.int .u32 (rot x 22)) ∧ w' = w := (rot22_any x w).mono fun _ _ h => ⟨h.1, h.2.symm⟩
theorem rot25_any (x : Nat) (w : World) :
    Calls Try.prog 51 #[.int .u32 x, .int .i64 (-25)] w fun e w' => e = .returned (.int .u32 (rot x 25)) ∧ w = w' := by
  have h1 := o32_eq
  have h2 : bits .and .u64 (IntKind.u64.wrap (-25)) 31 = 7 := by decide +kernel
  have h3 := r32_eq 25 33554432 (by decide)
  have h4 := l32_eq 7 128 (by decide)
  go_enter Try.func51, Try.ntmps51
  go_wp2
  go_ret
  exact ⟨rfl, rfl⟩
theorem rot25_q (x : Nat) (w : World) :
    Calls Try.prog 51 #[.int .u32 x, .int .i64 (-25)] w fun e w' => e = .returned (.int .u32 (rot x 25)) ∧ w' = w := (rot25_any x w).mono fun _ _ h => ⟨h.1, h.2.symm⟩
/-- The widths in use, by the left turn that is asked. -/
def RotOk (m : Int) : Prop := m = -2 ∨ m = -6 ∨ m = -7 ∨ m = -11 ∨ m = -13 ∨ m = -17 ∨ m = -18 ∨ m = -19 ∨ m = -22 ∨ m = -25
theorem rotv_q (x : Nat) (m : Int) (hm : RotOk m) (w : World) : Calls Try.prog 51 #[.int .u32 x, .int .i64 m] w fun e w' => e = .returned (.int .u32 (rot x m.natAbs)) ∧ w' = w := by
  rcases hm with rfl | rfl | rfl | rfl | rfl | rfl | rfl | rfl | rfl | rfl
  · exact rot2_q x w
  · exact rot6_q x w
  · exact rot7_q x w
  · exact rot11_q x w
  · exact rot13_q x w
  · exact rot17_q x w
  · exact rot18_q x w
  · exact rot19_q x w
  · exact rot22_q x w
  · exact rot25_q x w
end Go.Proofs.Ytbjlmhbpcopfbaa

/- Walks: package sum's words: a block spread to a word for each round. -/
namespace Go.Proofs.Ytbjlmhbpcopfbaa
open Go.RowKit

def u32s (l : List Nat) : Array Value := (l.map fun (x : Nat) => Value.int .u32 (x : Int)).toArray
def fillTo (n : Nat) (l : List Nat) : List Nat := l ++ List.replicate (n - l.length) 0
set_option maxRecDepth 100000 in
theorem fillTo_len {n : Nat} {l : List Nat} (h : l.length ≤ n) : (fillTo n l).length = n := by unfold fillTo; simp; omega
theorem u32s_size (l : List Nat) : (u32s l).size = l.length := by simp [u32s]
theorem u32s_get {l : List Nat} {j : Nat} (h : j < l.length) : (u32s l)[j]? = some (.int .u32 ((l.getD j 0 : Nat) : Int)) := by
  simp [u32s, List.getElem?_map, List.getElem?_eq_getElem h, List.getD]
set_option maxRecDepth 100000 in
theorem fillTo_get {n j : Nat} {l : List Nat} (h : j < l.length) : (u32s (fillTo n l))[j]? = some (.int .u32 ((l.getD j 0 : Nat) : Int)) := by
  rw [u32s_get (by unfold fillTo; simp; omega)]
  unfold fillTo
  simp [List.getD, List.getElem?_append_left h]
set_option maxRecDepth 100000 in
theorem fillTo_at {n j : Nat} {l : List Nat} (h : l.length = j) (hj : j < n) : (u32s (fillTo n l))[j]? = some (.int .u32 0) := by
  subst h
  rw [u32s_get (by rw [fillTo_len (by omega)]; exact hj)]
  unfold fillTo
  rw [List.getD, List.getElem?_append_right (Nat.le_refl _), Nat.sub_self, List.getElem?_replicate, if_pos (by omega)]
  rfl
set_option maxRecDepth 100000 in
theorem fillTo_set {n j x : Nat} {l : List Nat} (h : l.length = j) (hj : j < n) : (u32s (fillTo n l)).setIfInBounds j (.int .u32 (x : Int)) = u32s (fillTo n (l ++ [x])) := by
  subst h
  unfold fillTo u32s
  obtain ⟨m, hm⟩ : ∃ m, n - l.length = m + 1 := ⟨n - l.length - 1, by omega⟩
  have h2 : n - (l ++ [x]).length = m := by simp; omega
  rw [hm, h2, List.replicate_succ]
  simp [List.map_append]

set_option maxRecDepth 100000 in
set_option maxHeartbeats 600000 in
theorem words_any (A : Option Addr) (cap : Nat) (b : List Nat) (w : World) (hl : b.length = 64) (hr : Rd w A (b.map bv)) (hx : ∀ x ∈ b, x < 256) :
    Calls Try.prog 49 #[.slice A 64 cap] w fun e w' => e = .returned (.agg (u32s (wordsS b 64))) ∧ Below w.heap.size w w' := by
  have X := x32_eq
  have O := o32_eq
  have P1 := a32_eq
  have P2 := a32_eq'
  have R3 := r32_eq 3 8 (by decide)
  have R10 := r32_eq 10 1024 (by decide)
  have L24 := l32_eq 24 16777216 (by decide)
  have L16 := l32_eq 16 65536 (by decide)
  have L8 := l32_eq 8 256 (by decide)
  have M24 := l32_eq' 24 16777216 (by decide)
  have M16 := l32_eq' 16 65536 (by decide)
  have M8 := l32_eq' 8 256 (by decide)
  go_enter Try.func49, Try.ntmps49
  go_wp2_with fail
  go_loopw [10] (fun i wr => ∃ k : Nat, k ≤ 16 ∧ i = .int .i64 k ∧ Blk wr w.heap.size 92 (u32s (fillTo 64 [])) ∧ Blk wr (w.heap.size + 1) 92 (u32s (fillTo 64 (wordsS b k))) ∧ Below w.heap.size w wr) (fun i _ => 16 - (intOf i).toNat)
  case atStart => exact ⟨0, by omega, rfl, (Blk.new w _ _).alloc _, Blk.newAt _ _ _ _ (by simp), ((Keeps.refl [] w).alloc _).below.alloc (by simp) _⟩
  case round =>
    obtain ⟨k, hk, rfl, hZ, hB, hb⟩ := hrel
    by_cases hlt : k < 16
    · have hw : wordsS b (k + 1) = wordsS b k ++ [word4 (b.getD (4 * k) 0) (b.getD (4 * k + 1) 0) (b.getD (4 * k + 2) 0) (b.getD (4 * k + 3) 0)] := by rw [wordsS]; simp only [if_pos hlt]
      have HW := Lib.hid hw
      clear hw
      have hg : ∀ j, j < 64 → ∃ ad, A = some ad ∧ wr.cell? (ad.add j) = some (.int .u8 ((b.getD j 0 : Nat) : Int)) ∧ b.getD j 0 < 256 := fun j hj => by
        obtain ⟨ad, e, h⟩ := (hr.below hb).at_ (j := j) (by simpa [hl] using hj)
        have hj' : j < b.length := by omega
        refine ⟨ad, e, ?_, ?_⟩
        · rw [h]; simp [bv, List.getD, List.getElem?_eq_getElem hj']
        · simp only [List.getD, List.getElem?_eq_getElem hj', Option.getD_some]; exact hx _ (List.getElem_mem _)
      obtain ⟨ad, rfl, c0, l0⟩ := hg (4 * k) (by omega)
      obtain ⟨ad1, e, c1, l1⟩ := hg (4 * k + 1) (by omega)
      injection e with e; subst e
      obtain ⟨ad1, e, c2, l2⟩ := hg (4 * k + 2) (by omega)
      injection e with e; subst e
      obtain ⟨ad1, e, c3, l3⟩ := hg (4 * k + 3) (by omega)
      injection e with e; subst e
      clear hg
      generalize b.getD (4 * k) 0 = b0 at *
      generalize b.getD (4 * k + 1) 0 = b1 at *
      generalize b.getD (4 * k + 2) 0 = b2 at *
      generalize b.getD (4 * k + 3) 0 = b3 at *
      have s0 : wr.cell? ⟨w.heap.size + 1, k, none⟩ = some (.int .u32 0) := by rw [hB.cell, fillTo_at (wordsS_len b k) (by omega)]
      have f0 := hB.frozen k
      go_wp2_with fail
      have e0 : IntKind.i64.wrap (4 * (k : Int)) = 4 * (k : Int) := IntWalk.i64_in _ (by omega)
      have e1 : IntKind.i64.wrap (4 * (k : Int) + 1) = 4 * (k : Int) + 1 := IntWalk.i64_in _ (by omega)
      have e2 : IntKind.i64.wrap (4 * (k : Int) + 2) = 4 * (k : Int) + 2 := IntWalk.i64_in _ (by omega)
      have e3 : IntKind.i64.wrap (4 * (k : Int) + 3) = 4 * (k : Int) + 3 := IntWalk.i64_in _ (by omega)
      have t0 : (4 * (k : Int)).toNat = 4 * k := by omega
      have t1 : (4 * (k : Int) + 1).toNat = 4 * k + 1 := by omega
      have t2 : (4 * (k : Int) + 2).toNat = 4 * k + 2 := by omega
      have t3 : (4 * (k : Int) + 3).toNat = 4 * k + 3 := by omega
      have p0 : (0 : Int) ≤ 4 * (k : Int) := by omega
      have p1 : (0 : Int) ≤ 4 * (k : Int) + 1 := by omega
      have p2 : (0 : Int) ≤ 4 * (k : Int) + 2 := by omega
      have p3 : (0 : Int) ≤ 4 * (k : Int) + 3 := by omega
      have q0 : 4 * (k : Int) < 64 := by omega
      have q1 : 4 * (k : Int) + 1 < 64 := by omega
      have q2 : 4 * (k : Int) + 2 < 64 := by omega
      have q3 : 4 * (k : Int) + 3 < 64 := by omega
      have d1 : wr.cell? ⟨ad.block, ad.off + (4 * k + 1), none⟩ = some (Value.int IntKind.u8 ↑b1) := by rw [← add_pos ad (4 * k + 1) (by omega)]; exact c1
      have d2 : wr.cell? ⟨ad.block, ad.off + (4 * k + 1 + 1), none⟩ = some (Value.int IntKind.u8 ↑b2) := by rw [← add_pos ad (4 * k + 1 + 1) (by omega)]; exact c2
      have d3 : wr.cell? ⟨ad.block, ad.off + (4 * k + 1 + 1 + 1), none⟩ = some (Value.int IntKind.u8 ↑b3) := by rw [← add_pos ad (4 * k + 1 + 1 + 1) (by omega)]; exact c3
      have r0 : (k : Int) < 64 := by omega
      have r1 : (0 : Int) ≤ (k : Int) := by omega
      have w0 := w32_byte l0
      have w1 := w32_byte l1
      have w2 := w32_byte l2
      have w3 := w32_byte l3
      go_still_tail 35, (by kernel_rfl)
      clear e0 e1 e2 e3 t0 t1 t2 t3 p0 p1 p2 p3 q0 q1 q2 q3 w0 w1 w2 w3 c0 c1 c2 c3 d1 d2 d3 l0 l1 l2 l3
      have HO : Hid (o32 (o32 (o32 (l32 b0 24) (l32 b1 16)) (l32 b2 8)) b3 = word4 b0 b1 b2 b3) := rfl
      generalize o32 (o32 (o32 (l32 b0 24) (l32 b1 16)) (l32 b2 8)) b3 = V at *
      have hS := hB.set k (.int .u32 (V : Int))
      rw [fillTo_set (wordsS_len b k) (by omega)] at hS
      go_wp2_with fail
      go_roundw
      case rel => exact ⟨k + 1, by omega, by go_num, (hZ.far (p := ⟨w.heap.size + 1, k, none⟩) (by simp) _).drew, by rw [HW.out, ← HO.out]; exact hS.drew, (hb.setCell (by simp) _).drew⟩
      case measure => simp [intOf]; omega
    · obtain rfl : k = 16 := by omega
      rw [show ((16 : Nat) : Int) = 16 from rfl]
      clear L24 L16 L8 M24 M16 M8 hr hx hl
      have hz : Blk wr w.heap.size 92 (u32s (fillTo 64 [])) := hZ
      go_wp2_with fail
      generalize hW : wr = w1 at *
      clear hW
      go_loopw [5] (fun i wr => ∃ k : Nat, 16 ≤ k ∧ k ≤ 64 ∧ i = .int .i64 k ∧ Blk wr w.heap.size 92 (u32s (fillTo 64 [])) ∧ Blk wr (w.heap.size + 1) 92 (u32s (fillTo 64 (wordsS b k))) ∧ Below w.heap.size w wr) (fun i _ => 64 - (intOf i).toNat)
      case atStart => exact ⟨16, by omega, by omega, rfl, hz, hB, hb⟩
      case round =>
        clear hZ hB hb
        obtain ⟨k, hk1, hk2, rfl, hZ, hB, hb⟩ := hrel
        by_cases hlt : k < 64
        · have hw : wordsS b (k + 1) = wordsS b k ++ [wordN ((wordsS b k).getD (k - 16) 0) ((wordsS b k).getD (k - 15) 0) ((wordsS b k).getD (k - 7) 0) ((wordsS b k).getD (k - 2) 0)] := by rw [wordsS]; simp only [if_neg (show ¬ k < 16 by omega)]
          have HW := Lib.hid hw
          clear hw
          have hlen := wordsS_len b k
          have hC : ∀ w' : World, Blk w' (w.heap.size + 1) 92 (u32s (fillTo 64 (wordsS b k))) →
              w'.cell? ⟨w.heap.size + 1, k - 15, none⟩ = some (.int .u32 (((wordsS b k).getD (k - 15) 0 : Nat) : Int)) ∧
              w'.cell? ⟨w.heap.size + 1, k - 2, none⟩ = some (.int .u32 (((wordsS b k).getD (k - 2) 0 : Nat) : Int)) ∧
              w'.cell? ⟨w.heap.size + 1, k - 16, none⟩ = some (.int .u32 (((wordsS b k).getD (k - 16) 0 : Nat) : Int)) ∧
              w'.cell? ⟨w.heap.size + 1, k - 7, none⟩ = some (.int .u32 (((wordsS b k).getD (k - 7) 0 : Nat) : Int)) ∧
              w'.cell? ⟨w.heap.size + 1, k, none⟩ = some (.int .u32 0) := fun w' h => by
            simp only [h.cell]
            rw [fillTo_get (by omega), fillTo_get (by omega), fillTo_get (by omega), fillTo_get (by omega), fillTo_at hlen (by omega)]
            exact ⟨rfl, rfl, rfl, rfl, rfl⟩
          have HC := Lib.hid hC
          clear hC
          have hS := fun (w' : World) (h : Blk w' (w.heap.size + 1) 92 (u32s (fillTo 64 (wordsS b k)))) (x : Nat) => h.set k (.int .u32 (x : Int))
          simp only [fillTo_set hlen hlt] at hS
          have HS := Lib.hid hS
          clear hS hlen
          generalize (wordsS b k).getD (k - 15) 0 = x15 at *
          generalize (wordsS b k).getD (k - 2) 0 = x2 at *
          generalize (wordsS b k).getD (k - 16) 0 = x16 at *
          generalize (wordsS b k).getD (k - 7) 0 = x7 at *
          have e15 : IntKind.i64.wrap ((k : Int) - 15) = (k : Int) - 15 := IntWalk.i64_in _ (by omega)
          have e2 : IntKind.i64.wrap ((k : Int) - 2) = (k : Int) - 2 := IntWalk.i64_in _ (by omega)
          have e16 : IntKind.i64.wrap ((k : Int) - 16) = (k : Int) - 16 := IntWalk.i64_in _ (by omega)
          have e7 : IntKind.i64.wrap ((k : Int) - 7) = (k : Int) - 7 := IntWalk.i64_in _ (by omega)
          have t15 : ((k : Int) - 15).toNat = k - 15 := by omega
          have t2 : ((k : Int) - 2).toNat = k - 2 := by omega
          have t16 : ((k : Int) - 16).toNat = k - 16 := by omega
          have t7 : ((k : Int) - 7).toNat = k - 7 := by omega
          have p15 : (0 : Int) ≤ (k : Int) - 15 := by omega
          have p2 : (0 : Int) ≤ (k : Int) - 2 := by omega
          have p16 : (0 : Int) ≤ (k : Int) - 16 := by omega
          have p7 : (0 : Int) ≤ (k : Int) - 7 := by omega
          have m16 : (16 : Int) ≤ (k : Int) := by omega
          have m7 : (7 : Int) ≤ (k : Int) := by omega
          have q15 : (k : Int) - 15 < 64 := by omega
          have q2 : (k : Int) - 2 < 64 := by omega
          have q16 : (k : Int) - 16 < 64 := by omega
          have q7 : (k : Int) - 7 < 64 := by omega
          have r0 : (k : Int) < 64 := by omega
          have r1 : (0 : Int) ≤ (k : Int) := by omega
          obtain ⟨c15, c2, -, -, -⟩ := HC.out wr hB
          go_wp2_with fail
          go_quiet (fail)
          replace hZ := hZ.drewN nq
          replace hB := hB.drewN nq
          replace hb := below_drewN hb nq
          clear c15 c2
          generalize wr.drewN nq = w2 at *
          obtain ⟨-, -, c16, c7, s0⟩ := HC.out w2 hB
          have f0 := hB.frozen k
          go_wp2_with fail
          refine (rot7_any x15 _).mono ?_
          rintro e w' ⟨rfl, rfl⟩
          go_wp2_with fail
          refine (rot18_any x15 _).mono ?_
          rintro e w' ⟨rfl, rfl⟩
          go_wp2_with fail
          refine (rot17_any x2 _).mono ?_
          rintro e w' ⟨rfl, rfl⟩
          go_wp2_with fail
          refine (rot19_any x2 _).mono ?_
          rintro e w' ⟨rfl, rfl⟩
          go_wp2_with fail
          go_still_tail 15, (by kernel_rfl)
          clear m16 m7 e15 e2 e16 e7 t15 t2 t16 t7 p15 p2 p16 p7 q15 q2 q16 q7 c16 c7
          have HO : Hid (a32 (a32 (a32 x16 (x32 (x32 (rot x15 7) (rot x15 18)) (r32 x15 3))) x7) (x32 (x32 (rot x2 17) (rot x2 19)) (r32 x2 10)) = wordN x16 x15 x7 x2) := rfl
          generalize a32 (a32 (a32 x16 (x32 (x32 (rot x15 7) (rot x15 18)) (r32 x15 3))) x7) (x32 (x32 (rot x2 17) (rot x2 19)) (r32 x2 10)) = V at *
          go_wp2_with fail
          go_roundw
          case rel => exact ⟨k + 1, by omega, by omega, by go_num, (hZ.far (p := ⟨w.heap.size + 1, k, none⟩) (by simp) _).drew, by rw [HW.out, ← HO.out]; exact (HS.out w2 hB V).drew, (hb.setCell (by simp) _).drew⟩
          case measure => simp [intOf]; omega
        · obtain rfl : k = 64 := by omega
          rw [show ((64 : Nat) : Int) = 64 from rfl]
          have hfull : fillTo 64 (wordsS b 64) = wordsS b 64 := by unfold fillTo; rw [wordsS_len]; simp
          rw [hfull] at hB
          clear hfull
          have hsz := u32s_size (wordsS b 64)
          rw [wordsS_len] at hsz
          have hone : (u32s (wordsS b 64)).all (·.oneCell') = true := by unfold u32s; rw [Array.all_eq_true_iff_forall_mem]; intro v hv; simp at hv; obtain ⟨x, _, rfl⟩ := hv; rfl
          have hsz0 : (u32s (fillTo 64 [])).size = 64 := by rw [u32s_size, fillTo_len (by simp)]
          have hi : (Try.prog.info? 92).map (·.size) = some 64 := by kernel_rfl
          have HI := Lib.hid (hi.trans (congrArg some hsz.symm))
          have HS := Lib.hid (hsz.trans hsz0.symm)
          have H1 := Lib.hid hone
          clear hsz hsz0 hone hi
          generalize hCS : u32s (wordsS b 64) = CS at *
          have HCS := Lib.hid hCS
          clear hCS
          go_wp2_with (first
            | (refine wpList_load_blk rfl 92 _ rfl (w.heap.size + 1) rfl 92 CS _ hB Try.underlying92 rfl HI.out ?_)
            | (refine wpList_store_blk rfl 92 _ _ rfl w.heap.size 92 _ CS rfl rfl hZ HS.out HI.out H1.out ?_; intro w' hB' hk'))
          refine post_blk rfl rfl w.heap.size 92 CS _ rfl hB' Try.underlying92 rfl HI.out ⟨congrArg (fun z => Ending.returned (.agg z)) HCS.out.symm, ?_⟩
          exact ((Keeps.of_below (S := []) hb).trans' hk' (by simp)).below
end Go.Proofs.Ytbjlmhbpcopfbaa
