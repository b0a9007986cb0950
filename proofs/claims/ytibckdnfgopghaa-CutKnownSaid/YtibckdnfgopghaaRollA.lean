/- Walks of package roll's functions over plain numbers: what each returns, as a plain function of naturals. -/
import Derived.Test.YtibckdnfgopghaaProg
import Derived.Shelf.Bits.Mul64
import Derived.WalkKit
import Derived.Deep.RegionHeld3
import Derived.Deep.QuietTactic
import Derived.BigQuiet
import Derived.KernelRfl
namespace Go.Proofs.Ytibckdnfgopghaa
open Go.RowKit Go.Shelf

def mulRen : Ren := ⟨fun | 264 => 44 | n => n, fun | 53 => 24 | 46 => 68 | n => n, fun | n => n⟩
theorem mulLays : Go.Proofs.Lays.n264 Try.prog mulRen := {
  mixed := by kernel_rfl
  f264 := Try.func44.trans (congrArg some (by kernel_rfl))
  t46 := Try.underlying68
  a46 := Try.isAgg68
  z46 := Try.sizeOf68
  v46 := Try.zeroValue68
  t53 := Try.underlying24
  a53 := Try.isAgg24
  z53 := Try.sizeOf24
  v53 := Try.zeroValue24 }
theorem mul64_any (x y : Nat) (hx : x < 18446744073709551616) (hy : y < 18446744073709551616) (w : World) :
    Calls Try.prog 44 #[.int .u64 x, .int .u64 y] w fun e w' => e = .returned (.tuple #[.int .u64 ((x * y / 18446744073709551616 : Nat) : Int), .int .u64 ((x * y % 18446744073709551616 : Nat) : Int)]) ∧ w' = w :=
  Any.bits_Mul64 mulLays x y hx hy w

theorem ret_int {k : IntKind} {a b : Int} (h : a = b) : Ending.returned (.int k a) = .returned (.int k b) := by rw [h]

theorem rest_any (n : Int) (h0 : 0 ≤ n) (w : World) :
    Calls Try.prog 39 #[.int .u64 n] w fun e w' => e = .returned (.int .u64 (n % 2305843009213693951)) ∧ w = w' := by
  go_enter Try.func39, Try.ntmps39
  go_wp2
  go_ret
  exact ⟨rfl, rfl⟩

theorem wrap_u64 (n : Int) : IntKind.u64.wrap n = n % 18446744073709551616 := by simp [IntKind.wrap, IntKind.bits, IntKind.signed]
theorem wraps_u64 (n : Int) (h₀ : 0 ≤ n) (h₁ : n < 2 ^ 64) : IntKind.u64.wrap n = n := by rw [wrap_u64]; omega
theorem mask61 (x : Int) (h0 : 0 ≤ x) (h1 : x < 18446744073709551616) : bits .and .u64 x 2305843009213693951 = x % 2305843009213693952 :=
  bits_mask .u64 64 (by decide) wraps_u64 61 (by decide) x h0 h1
theorem join3 (h l : Int) (h0 : 0 ≤ h) (h1 : h * 8 < 18446744073709551616) (l0 : 0 ≤ l) (l1 : l < 8) : bits .or .u64 (h * 8) l = h * 8 + l :=
  bits_join .u64 64 (by decide) wraps_u64 3 _ _ (by omega) (by omega) h1 l0 l1 (by omega)

theorem mul_fold (a b : Nat) (ha : a < 2305843009213693951) (hb : b < 2305843009213693951) :
    a * b / 18446744073709551616 * 8 < 18446744073709551616 ∧
    (a * b / 18446744073709551616 * 8 + a * b % 18446744073709551616 / 2305843009213693952 + a * b % 18446744073709551616 % 2305843009213693952 % 2305843009213693951) % 2305843009213693951 = a * b % 2305843009213693951 ∧
    a * b / 18446744073709551616 * 8 + a * b % 18446744073709551616 / 2305843009213693952 + a * b % 18446744073709551616 % 2305843009213693952 % 2305843009213693951 < 18446744073709551616 := by
  have h : a * b ≤ 2305843009213693950 * 2305843009213693950 := Nat.mul_le_mul (by omega) (by omega)
  generalize a * b = x at *
  omega

theorem mul_any (a b : Nat) (ha : a < 2305843009213693951) (hb : b < 2305843009213693951) (w : World) :
    Calls Try.prog 42 #[.int .u64 a, .int .u64 b] w fun e w' => e = .returned (.int .u64 ((a * b % 2305843009213693951 : Nat) : Int)) ∧ w = w' := by
  obtain ⟨h1, h2, h3⟩ := mul_fold a b ha hb
  generalize hx : a * b = x at *
  go_enter Try.func42, Try.ntmps42
  go_wp2_with fail
  refine (mul64_any a b (by omega) (by omega) _).mono ?_
  rintro e w' ⟨rfl, rfl⟩
  rw [hx]
  go_wp2_with fail
  rw [mask61 _ (by omega) (by omega), join3 _ _ (by omega) (by omega) (by omega) (by omega)]
  refine (rest_any _ (by omega) _).mono ?_
  rintro e w' ⟨rfl, rfl⟩
  go_wp2_with fail
  refine (rest_any _ (by omega) _).mono ?_
  rintro e w' ⟨rfl, rfl⟩
  go_wp2_with fail
  go_ret
  exact ⟨ret_int (by omega), rfl⟩

def onS (s c : Nat) : Nat := (s * 257 % 2305843009213693951 + c + 1) % 2305843009213693951
theorem onS_lt (s c : Nat) : onS s c < 2305843009213693951 := Nat.mod_lt _ (by omega)

theorem on_any (s c : Nat) (hs : s < 2305843009213693951) (hc : c < 256) (w : World) :
    Calls Try.prog 35 #[.int .u64 s, .int .u8 c] w fun e w' => e = .returned (.int .u64 (onS s c)) ∧ w = w' := by
  have hm : s * 257 % 2305843009213693951 < 2305843009213693951 := Nat.mod_lt _ (by omega)
  go_enter Try.func35, Try.ntmps35
  go_wp2_with fail
  refine (mul_any s 257 hs (by omega) _).mono ?_
  rintro e w' ⟨rfl, rfl⟩
  have HO : Hid (onS s c = (s * 257 % 2305843009213693951 + c + 1) % 2305843009213693951) := rfl
  generalize s * 257 % 2305843009213693951 = x at *
  go_wp2_with fail
  refine (rest_any _ (by omega) _).mono ?_
  rintro e w' ⟨rfl, rfl⟩
  go_wp2_with fail
  go_ret
  exact ⟨ret_int (by rw [HO.out]; omega), rfl⟩

def powS : Nat → Nat
  | 0 => 1
  | n + 1 => powS n * 257 % 2305843009213693951
theorem powS_lt : ∀ n, powS n < 2305843009213693951
  | 0 => by simp [powS]
  | n + 1 => Nat.mod_lt _ (by omega)

theorem power_any (n : Nat) (hn : n < 1000) (w : World) :
    Calls Try.prog 43 #[.int .i64 n] w fun e w' => e = .returned (.int .u64 (powS n)) ∧ w = w' := by
  go_enter Try.func43, Try.ntmps43
  go_wp2_with fail
  go_loop [3, 5] (fun p i => ∃ k : Nat, k ≤ n ∧ i = .int .i64 k ∧ p = .int .u64 (powS k)) (fun _ i => n - (intOf i).toNat)
  case atStart => exact ⟨0, Nat.zero_le _, rfl, rfl⟩
  case round =>
    obtain ⟨k, hk, rfl, rfl⟩ := hrel
    have hp := powS_lt k
    by_cases hlt : k < n
    · go_wp2_with (first | (go_at_call 42; refine (mul_any (powS k) 257 hp (by omega) _).mono ?_; rintro e w' ⟨rfl, rfl⟩))
      go_round
      case rel => exact ⟨k + 1, by omega, by go_num, rfl⟩
      case measure => simp [intOf]; omega
    · obtain rfl : k = n := by omega
      go_wp2
      go_ret
      exact ⟨rfl, rfl⟩

def holdS (w : Int) : Nat := if w < 1 then 1 else if 64 < w then 64 else w.toNat
theorem holdS_pos (w : Int) : 1 ≤ holdS w ∧ holdS w ≤ 64 := by unfold holdS; split; · omega
                                                               split <;> omega
theorem hold_any (a : Int) (w : World) :
    Calls Try.prog 36 #[.int .i64 a] w fun e w' => e = .returned (.int .i64 (holdS a)) ∧ w = w' := by
  by_cases h1 : a < 1
  · have e : holdS a = 1 := by unfold holdS; rw [if_pos h1]
    rw [e]
    go_enter Try.func36, Try.ntmps36
    go_wp2
    go_ret
    exact ⟨rfl, rfl⟩
  · by_cases h2 : 64 < a
    · have e : holdS a = 64 := by unfold holdS; rw [if_neg h1, if_pos h2]
      rw [e]
      go_enter Try.func36, Try.ntmps36
      go_wp2
      go_ret
      exact ⟨rfl, rfl⟩
    · have e : (holdS a : Int) = a := by unfold holdS; rw [if_neg h1, if_neg h2]; omega
      rw [e]
      go_enter Try.func36, Try.ntmps36
      go_wp2
      go_ret
      exact ⟨rfl, rfl⟩

def withoutS (s out w : Nat) : Nat := (s + 2305843009213693951 - (out + 1) * powS (w - 1) % 2305843009213693951) % 2305843009213693951
theorem withoutS_lt (s o w : Nat) : withoutS s o w < 2305843009213693951 := Nat.mod_lt _ (by omega)

theorem without_any (s o wd : Nat) (hs : s < 2305843009213693951) (ho : o < 256) (h1 : 1 ≤ wd) (h2 : wd ≤ 64) (w : World) :
    Calls Try.prog 38 #[.int .u64 s, .int .u8 o, .int .i64 wd] w fun e w' => e = .returned (.int .u64 (withoutS s o wd)) ∧ w = w' := by
  obtain ⟨n, rfl⟩ : ∃ n, wd = n + 1 := ⟨wd - 1, by omega⟩
  have HW : Hid (withoutS s o (n + 1) = (s + 2305843009213693951 - (o + 1) * powS n % 2305843009213693951) % 2305843009213693951) := rfl
  go_enter Try.func38, Try.ntmps38
  go_wp2_with fail
  refine (power_any n (by omega) _).mono ?_
  rintro e w' ⟨rfl, rfl⟩
  have hp := powS_lt n
  have hm : (o + 1) * powS n % 2305843009213693951 < 2305843009213693951 := Nat.mod_lt _ (by omega)
  go_wp2_with fail
  refine (mul_any (o + 1) (powS n) (by omega) hp _).mono ?_
  rintro e w' ⟨rfl, rfl⟩
  generalize (o + 1) * powS n % 2305843009213693951 = x at *
  go_wp2_with fail
  refine (rest_any _ (by omega) _).mono ?_
  rintro e w' ⟨rfl, rfl⟩
  go_wp2_with fail
  go_ret
  exact ⟨ret_int (by rw [HW.out]; omega), rfl⟩

def slideS (s o i : Nat) (w : Int) : Nat := onS (withoutS (s % 2305843009213693951) o (holdS w)) i

theorem slide_any (s o i : Nat) (wd : Int) (hs : s < 18446744073709551616) (ho : o < 256) (hi : i < 256) (w : World) :
    Calls Try.prog 21 #[.int .u64 s, .int .u8 o, .int .u8 i, .int .i64 wd] w fun e w' => e = .returned (.int .u64 (slideS s o i wd)) ∧ w = w' := by
  have hh := holdS_pos wd
  have hr : s % 2305843009213693951 < 2305843009213693951 := Nat.mod_lt _ (by omega)
  have hw := withoutS_lt (s % 2305843009213693951) o (holdS wd)
  go_enter Try.func21, Try.ntmps21
  go_wp2_with fail
  refine (rest_any _ (by omega) _).mono ?_
  rintro e w' ⟨rfl, rfl⟩
  go_wp2_with fail
  refine (hold_any _ _).mono ?_
  rintro e w' ⟨rfl, rfl⟩
  go_wp2_with fail
  refine (without_any (s % 2305843009213693951) o (holdS wd) hr ho hh.1 hh.2 _).mono ?_
  rintro e w' ⟨rfl, rfl⟩
  go_wp2_with fail
  refine (on_any _ _ hw hi _).mono ?_
  rintro e w' ⟨rfl, rfl⟩
  go_wp2_with fail
  go_ret
  exact ⟨rfl, rfl⟩
end Go.Proofs.Ytibckdnfgopghaa
