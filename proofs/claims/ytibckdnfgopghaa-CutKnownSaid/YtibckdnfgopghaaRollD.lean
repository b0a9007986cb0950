/- Walks of the reference's windows and of layer 5's laws. -/
import Derived.Test.YtibckdnfgopghaaRollP
import Derived.Lib.Hide
import Derived.Deep.LoopGhost
import Derived.Deep.DeepCutAuto
namespace Go.Proofs.Ytibckdnfgopghaa
open Go.RowKit

theorem times_step (r a b t : Nat) (h : (r + a * b) % 2305843009213693951 = t) (hb : b ≠ 0) :
    ((if b % 2 = 1 then (r + a) % 2305843009213693951 else r) + ((a + a) % 2305843009213693951) * (b / 2)) % 2305843009213693951 = t := by
  have hm : ((a + a) % 2305843009213693951) * (b / 2) % 2305843009213693951 = (a * (2 * (b / 2))) % 2305843009213693951 := by
    rw [Nat.mod_mul_mod]
    congr 1
    rw [← Nat.two_mul, Nat.mul_comm 2 a, Nat.mul_assoc]
  rw [Nat.add_mod, hm, ← h]
  by_cases h1 : b % 2 = 1
  · rw [if_pos h1]
    obtain ⟨q, rfl⟩ : ∃ q, b = 2 * q + 1 := ⟨b / 2, by omega⟩
    rw [show (2 * q + 1) / 2 = q by omega, Nat.mul_add, Nat.mul_one]
    generalize a * (2 * q) = y
    omega
  · rw [if_neg h1]
    obtain ⟨q, rfl⟩ : ∃ q, b = 2 * q := ⟨b / 2, by omega⟩
    rw [show 2 * q / 2 = q by omega]
    generalize a * (2 * q) = y
    omega

theorem times_any (a b : Nat) (ha : a < 2305843009213693951) (hb : b < 18446744073709551616) (w : World) :
    Calls Try.prog 37 #[.int .u64 a, .int .u64 b] w fun e w' => e = .returned (.int .u64 ((a * b % 2305843009213693951 : Nat) : Int)) ∧ w = w' := by
  have HT : Hid ((0 + a * b) % 2305843009213693951 = a * b % 2305843009213693951) := by unfold Hid; rw [Nat.zero_add]
  generalize a * b % 2305843009213693951 = t at *
  go_enter Try.func37, Try.ntmps37
  go_wp2_with fail
  go_loop [0, 1, 5] (fun va vb vr => ∃ a b r : Nat, a < 2305843009213693951 ∧ b < 18446744073709551616 ∧ r < 2305843009213693951 ∧ va = .int .u64 a ∧ vb = .int .u64 b ∧ vr = .int .u64 r ∧ Hid ((r + a * b) % 2305843009213693951 = t)) (fun _ b _ => (intOf b).toNat)
  case atStart => exact ⟨a, b, 0, ha, hb, by omega, rfl, rfl, rfl, HT⟩
  case round =>
    clear HT ha hb
    obtain ⟨a, b, r, ha, hb, hr, rfl, rfl, rfl, HT⟩ := hrel
    by_cases h0 : 0 < b
    · have hs := times_step r a b t HT.out (by omega)
      have h0' : (0 : Int) < (b : Int) := by omega
      by_cases h1 : b % 2 = 1
      · rw [if_pos h1] at hs
        have HS := Lib.hid hs
        clear hs
        have hb1 : (((b : Int) % 2) == 1) = true := by simp; omega
        have ha2 : (a + a) % 2305843009213693951 < 2305843009213693951 := Nat.mod_lt _ (by omega)
        have hr2 : (r + a) % 2305843009213693951 < 2305843009213693951 := Nat.mod_lt _ (by omega)
        go_wp2
        go_round
        case rel => exact ⟨(a + a) % 2305843009213693951, b / 2, (r + a) % 2305843009213693951, ha2, by omega, hr2, by go_num, by go_num, by go_num, HS.out⟩
        case measure => simp [intOf]; omega
      · rw [if_neg h1] at hs
        have HS := Lib.hid hs
        clear hs
        have hb1 : (((b : Int) % 2) == 1) = false := by simp; omega
        have ha2 : (a + a) % 2305843009213693951 < 2305843009213693951 := Nat.mod_lt _ (by omega)
        go_wp2
        go_round
        case rel => exact ⟨(a + a) % 2305843009213693951, b / 2, r, ha2, by omega, hr, by go_num, by go_num, rfl, HS.out⟩
        case measure => simp [intOf]; omega
    · obtain rfl : b = 0 := by omega
      have HR : Hid (r = t) := by have := HT.out; unfold Hid; rw [Nat.mul_zero, Nat.add_zero, Nat.mod_eq_of_lt hr] at this; exact this
      clear HT
      go_wp2
      go_ret
      exact ⟨by rw [← HR.out]; rfl, rfl⟩

theorem refRoll_any (A : Option Addr) (n cap : Nat) (l : List Nat) (w : World) (hl : l.length = n) (hr : Rd w A (l.map bv)) (hx : ∀ x ∈ l, x < 256) (hn : n ≤ maxLen) :
    Calls Try.prog 17 #[.slice A n cap] w fun e w' => e = .returned (.int .u64 (ofS l)) ∧ ∃ q, w' = w.drewN q := by
  unfold maxLen at hn
  go_enter Try.func17, Try.ntmps17
  go_wp2_with fail
  go_loopw [3, 4] (fun s i wr => ∃ k q : Nat, k ≤ n ∧ i = .int .i64 k ∧ s = .int .u64 (ofS (l.take k)) ∧ wr = w.drewN q) (fun _ i _ => n - (intOf i).toNat)
  case atStart => exact ⟨0, 0, Nat.zero_le _, rfl, rfl, rfl⟩
  case round =>
    obtain ⟨k, q, hk, rfl, rfl, hwr⟩ := hrel
    by_cases hlt : k < n
    · have hkl : k < l.length := by omega
      obtain ⟨ad, rfl, hc⟩ := hr.at_ (j := k) (by simpa using hkl)
      have hcell : wr.cell? (ad.add k) = some (.int .u8 (l[k] : Nat)) := by rw [hwr, World.cell?_drewN, hc]; simp [bv]
      have HW := Lib.hid hwr
      clear hwr
      have hb : l[k] < 256 := hx _ (List.getElem_mem _)
      have ho := ofS_lt (l.take k)
      have hm : ofS (l.take k) * 257 % 2305843009213693951 < 2305843009213693951 := Nat.mod_lt _ (by omega)
      have HS : Hid (ofS (l.take (k + 1)) = (ofS (l.take k) * 257 % 2305843009213693951 + l[k] + 1) % 2305843009213693951) := foldl_take_succ onS 0 l k hkl
      clear hc hr
      have hlt' : (k : Int) < (n : Int) := by omega
      have hk0 : (0 : Int) ≤ (k : Int) := by omega
      generalize hz : l[k] = z at *
      clear hz
      go_wp2_with fail
      go_quiet ((go_at_call 37; exact Calls.quiet_of_same ((times_any (ofS (l.take k)) 257 ho (by omega) _).mono fun e w' h => ⟨h.1, h.2.symm⟩)))
      go_wp2
      go_roundw
      case rel => exact ⟨k + 1, _, by omega, by go_num, by rw [HS.out]; go_num, by rw [HW.out, World.drewN_drewN]⟩
      case measure => simp [intOf]; omega
    · obtain rfl : k = n := by omega
      have HW := Lib.hid hwr
      clear hwr
      go_wp2
      go_ret
      exact ⟨by rw [List.take_of_length_le (by omega)]; rfl, _, HW.out⟩

theorem x_succ (o k : Nat) (h1 : 1 ≤ k) : (o + 1) * powS (k - 1) % 2305843009213693951 * 257 % 2305843009213693951 = (o + 1) * powS (k + 1 - 1) % 2305843009213693951 := by
  obtain ⟨j, rfl⟩ : ∃ j, k = j + 1 := ⟨k - 1, by omega⟩
  simp only [Nat.add_sub_cancel, powS]
  rw [Nat.mod_mul_mod, Nat.mul_assoc, Nat.mul_mod_mod]
theorem slide_eq (s o i W : Nat) (wd : Int) (hW : holdS wd = W) (x : Nat) (hx : (o + 1) * powS (W - 1) % 2305843009213693951 = x) :
    ((s % 2305843009213693951 + 2305843009213693951 - x) % 2305843009213693951 * 257 % 2305843009213693951 + i + 1) % 2305843009213693951 = slideS s o i wd := by
  unfold slideS onS withoutS
  rw [hW, hx]

theorem refSlide_lo (s o i : Nat) (wd : Int) (hs : s < 18446744073709551616) (ho : o < 256) (hi : i < 256) (hw : wd < 1) (w : World) :
    Calls Try.prog 22 #[.int .u64 s, .int .u8 o, .int .u8 i, .int .i64 wd] w fun e w' => e = .returned (.int .u64 (slideS s o i wd)) ∧ w = w' := by
  have hH : holdS wd = 1 := by unfold holdS; rw [if_pos hw]
  have hE := slide_eq s o i 1 wd hH _ rfl
  have HE := Lib.hid hE
  clear hE hH
  go_enter Try.func22, Try.ntmps22
  go_wp2_with fail
  go_loop [9, 10] (fun x i => ∃ k : Nat, 1 ≤ k ∧ k ≤ 1 ∧ i = .int .i64 k ∧ x = .int .u64 ((o + 1) * powS (k - 1) % 2305843009213693951 : Nat)) (fun _ i => 1 - (intOf i).toNat)
  case atStart => exact ⟨1, by omega, by omega, rfl, by simp only [Nat.sub_self, powS, Nat.mul_one]; rw [Nat.mod_eq_of_lt (by omega)]; go_num⟩
  case round =>
    obtain ⟨k, h1, hk, rfl, rfl⟩ := hrel
    have hxl : (o + 1) * powS (k - 1) % 2305843009213693951 < 2305843009213693951 := Nat.mod_lt _ (by omega)
    by_cases hlt : k < 1
    · exact absurd hlt (by omega)
    · obtain rfl : k = 1 := by omega
      generalize (o + 1) * powS (1 - 1) % 2305843009213693951 = x at *
      have hs1 : s % 2305843009213693951 < 2305843009213693951 := Nat.mod_lt _ (by omega)
      have hy : (s % 2305843009213693951 + 2305843009213693951 - x) % 2305843009213693951 < 2305843009213693951 := Nat.mod_lt _ (by omega)
      go_wp2_with fail
      rw [show ((s : Int) % 2305843009213693951 + 2305843009213693951 - (x : Int)) % 2305843009213693951 = (((s % 2305843009213693951 + 2305843009213693951 - x) % 2305843009213693951 : Nat) : Int) by omega]
      refine (times_any _ 257 hy (by omega) _).mono ?_
      rintro e w' ⟨rfl, rfl⟩
      have hm : (s % 2305843009213693951 + 2305843009213693951 - x) % 2305843009213693951 * 257 % 2305843009213693951 < 2305843009213693951 := Nat.mod_lt _ (by omega)
      generalize (s % 2305843009213693951 + 2305843009213693951 - x) % 2305843009213693951 * 257 % 2305843009213693951 = y at *
      go_wp2_with fail
      go_ret
      exact ⟨ret_int (by rw [← HE.out]; omega), rfl⟩

theorem refSlide_hi (s o i : Nat) (wd : Int) (hs : s < 18446744073709551616) (ho : o < 256) (hi : i < 256) (hw : 64 < wd) (w : World) :
    Calls Try.prog 22 #[.int .u64 s, .int .u8 o, .int .u8 i, .int .i64 wd] w fun e w' => e = .returned (.int .u64 (slideS s o i wd)) ∧ w = w' := by
  have hH : holdS wd = 64 := by unfold holdS; rw [if_neg (by omega), if_pos hw]
  have hw1 : ¬ wd < 1 := by omega
  have hE := slide_eq s o i 64 wd hH _ rfl
  have HE := Lib.hid hE
  clear hE hH
  go_enter Try.func22, Try.ntmps22
  go_wp2_with fail
  go_loop [9, 10] (fun x i => ∃ k : Nat, 1 ≤ k ∧ k ≤ 64 ∧ i = .int .i64 k ∧ x = .int .u64 ((o + 1) * powS (k - 1) % 2305843009213693951 : Nat)) (fun _ i => 64 - (intOf i).toNat)
  case atStart => exact ⟨1, by omega, by omega, rfl, by simp only [Nat.sub_self, powS, Nat.mul_one]; rw [Nat.mod_eq_of_lt (by omega)]; go_num⟩
  case round =>
    obtain ⟨k, h1, hk, rfl, rfl⟩ := hrel
    have hxl : (o + 1) * powS (k - 1) % 2305843009213693951 < 2305843009213693951 := Nat.mod_lt _ (by omega)
    by_cases hlt : k < 64
    · have HX := Lib.hid (x_succ o k h1)
      clear HE
      generalize (o + 1) * powS (k - 1) % 2305843009213693951 = x at *
      go_wp2_with (first | (go_at_call 37; refine (times_any x 257 hxl (by omega) _).mono ?_; rintro e w' ⟨rfl, rfl⟩))
      go_round
      case rel => exact ⟨k + 1, by omega, by omega, by go_num, by rw [← HX.out]; go_num⟩
      case measure => simp [intOf]; omega
    · obtain rfl : k = 64 := by omega
      generalize (o + 1) * powS (64 - 1) % 2305843009213693951 = x at *
      have hs1 : s % 2305843009213693951 < 2305843009213693951 := Nat.mod_lt _ (by omega)
      have hy : (s % 2305843009213693951 + 2305843009213693951 - x) % 2305843009213693951 < 2305843009213693951 := Nat.mod_lt _ (by omega)
      go_wp2_with fail
      rw [show ((s : Int) % 2305843009213693951 + 2305843009213693951 - (x : Int)) % 2305843009213693951 = (((s % 2305843009213693951 + 2305843009213693951 - x) % 2305843009213693951 : Nat) : Int) by omega]
      refine (times_any _ 257 hy (by omega) _).mono ?_
      rintro e w' ⟨rfl, rfl⟩
      have hm : (s % 2305843009213693951 + 2305843009213693951 - x) % 2305843009213693951 * 257 % 2305843009213693951 < 2305843009213693951 := Nat.mod_lt _ (by omega)
      generalize (s % 2305843009213693951 + 2305843009213693951 - x) % 2305843009213693951 * 257 % 2305843009213693951 = y at *
      go_wp2_with fail
      go_ret
      exact ⟨ret_int (by rw [← HE.out]; omega), rfl⟩

theorem refSlide_mid (s o i : Nat) (W : Nat) (hs : s < 18446744073709551616) (ho : o < 256) (hi : i < 256) (h1 : 1 ≤ W) (h64 : W ≤ 64) (w : World) :
    Calls Try.prog 22 #[.int .u64 s, .int .u8 o, .int .u8 i, .int .i64 (W : Int)] w fun e w' => e = .returned (.int .u64 (slideS s o i (W : Int))) ∧ w = w' := by
  have hH : holdS (W : Int) = W := by unfold holdS; rw [if_neg (by omega), if_neg (by omega)]; omega
  have hE := slide_eq s o i W (W : Int) hH _ rfl
  have HE := Lib.hid hE
  clear hE hH
  go_enter Try.func22, Try.ntmps22
  go_wp2_with fail
  go_loop [9, 10] (fun x i => ∃ k : Nat, 1 ≤ k ∧ k ≤ W ∧ i = .int .i64 k ∧ x = .int .u64 ((o + 1) * powS (k - 1) % 2305843009213693951 : Nat)) (fun _ i => W - (intOf i).toNat)
  case atStart => exact ⟨1, by omega, by omega, rfl, by simp only [Nat.sub_self, powS, Nat.mul_one]; rw [Nat.mod_eq_of_lt (by omega)]; go_num⟩
  case round =>
    obtain ⟨k, h1, hk, rfl, rfl⟩ := hrel
    have hxl : (o + 1) * powS (k - 1) % 2305843009213693951 < 2305843009213693951 := Nat.mod_lt _ (by omega)
    by_cases hlt : k < W
    · have HX := Lib.hid (x_succ o k h1)
      clear HE
      generalize (o + 1) * powS (k - 1) % 2305843009213693951 = x at *
      go_wp2_with (first | (go_at_call 37; refine (times_any x 257 hxl (by omega) _).mono ?_; rintro e w' ⟨rfl, rfl⟩))
      go_round
      case rel => exact ⟨k + 1, by omega, by omega, by go_num, by rw [← HX.out]; go_num⟩
      case measure => simp [intOf]; omega
    · obtain rfl : k = W := by omega
      generalize (o + 1) * powS (k - 1) % 2305843009213693951 = x at *
      have hs1 : s % 2305843009213693951 < 2305843009213693951 := Nat.mod_lt _ (by omega)
      have hy : (s % 2305843009213693951 + 2305843009213693951 - x) % 2305843009213693951 < 2305843009213693951 := Nat.mod_lt _ (by omega)
      go_wp2_with fail
      rw [show ((s : Int) % 2305843009213693951 + 2305843009213693951 - (x : Int)) % 2305843009213693951 = (((s % 2305843009213693951 + 2305843009213693951 - x) % 2305843009213693951 : Nat) : Int) by omega]
      refine (times_any _ 257 hy (by omega) _).mono ?_
      rintro e w' ⟨rfl, rfl⟩
      have hm : (s % 2305843009213693951 + 2305843009213693951 - x) % 2305843009213693951 * 257 % 2305843009213693951 < 2305843009213693951 := Nat.mod_lt _ (by omega)
      generalize (s % 2305843009213693951 + 2305843009213693951 - x) % 2305843009213693951 * 257 % 2305843009213693951 = y at *
      go_wp2_with fail
      go_ret
      exact ⟨ret_int (by rw [← HE.out]; omega), rfl⟩

theorem refSlide_any (s o i : Nat) (wd : Int) (hs : s < 18446744073709551616) (ho : o < 256) (hi : i < 256) (w : World) :
    Calls Try.prog 22 #[.int .u64 s, .int .u8 o, .int .u8 i, .int .i64 wd] w fun e w' => e = .returned (.int .u64 (slideS s o i wd)) ∧ w = w' := by
  by_cases h1 : wd < 1
  · exact refSlide_lo s o i wd hs ho hi h1 w
  · by_cases h2 : 64 < wd
    · exact refSlide_hi s o i wd hs ho hi h2 w
    · obtain ⟨W, rfl⟩ := Int.eq_ofNat_of_zero_le (show 0 ≤ wd by omega)
      exact refSlide_mid s o i W hs ho hi (by omega) (by omega) w

theorem Seg.setAt {w : World} {e : TypeId} {g off n cap : Nat} {xs : List Value} {S : List Nat} (h : Seg w e 1 (.slice (some ⟨g, off, none⟩) n cap) n xs S) (j : Nat) (hj : j < n) (u : Value) :
    Seg (w.setCell ⟨g, off + j, none⟩ u) e 1 (.slice (some ⟨g, off, none⟩) n cap) n (xs.set j u) S := by
  refine ⟨by rw [List.length_set]; exact h.1, .inr ?_⟩
  rcases h.2 with ⟨h2, _⟩ | ⟨g', o, c, cs, hv, hS, hb, hs, hn, hm, hx⟩
  · simp at h2
  · simp only [Value.slice.injEq, Option.some.injEq, Addr.mk.injEq, and_true, true_and] at hv
    obtain ⟨⟨rfl, rfl⟩, rfl⟩ := hv
    refine ⟨g, off, cap, _, rfl, hS, hb.set (off + j) u, by simpa using hs, hn, hm, fun i hi => ?_⟩
    rw [Array.getElem?_setIfInBounds, List.getElem?_set]
    have hl := h.1
    by_cases hij : j = i
    · subst hij
      rw [if_pos rfl, if_pos (by omega), if_pos rfl, if_pos (by omega)]
    · rw [if_neg (by omega), if_neg hij]
      exact hx i hi

theorem lawApart_any (A : Option Addr) (n cap : Nat) (l : List Nat) (ix : Int) (tv : Nat) (w : World) (hl : l.length = n) (hr : Rd w A (l.map bv)) (hA : A = none → n = 0) (hx : ∀ x ∈ l, x < 256) (hn : n ≤ maxLen) (htv : tv < 256) :
    Calls Try.prog 3 #[.slice A n cap, .int .i64 ix, .int .u8 tv] w fun e w' => e = .returned (.bool true) ∧ Below w.heap.size w w' := by
  unfold maxLen at hn
  by_cases h64 : n ≤ 64
  · by_cases h0 : 0 ≤ ix
    · by_cases h1 : ix < n
      · obtain ⟨k, rfl⟩ := Int.eq_ofNat_of_zero_le h0
        go_enter Try.func3, Try.ntmps3
        go_wp2_with fail
        refine (awake5_any _).mono ?_
        rintro e w1 ⟨rfl, hb⟩
        have hk : k < n := by omega
        have hn0 : ¬ n ≤ k := by omega
        obtain ⟨ad, rfl, hcd⟩ := hr.at_ (j := k) (by simpa using (by omega : k < l.length))
        have hr1 := hr.below hb
        have hcd1 : w1.cell? (ad.add k) = some (.int .u8 (l[k]'(by omega) : Nat)) := by rw [hb.cell (World.block_lt_of_cell? w _ hcd), hcd]; simp [bv]
        go_wp2_with (at_builtin; refine wpList_append_seg _ rfl (.tmp 23) (.tmp 24) 22 rfl 5 (.int .u8 0) 1 1 Try.underlying22 info_u8 rfl (.slice (some ⟨w1.heap.size, 0, none⟩) 0 0) 0 [] [w1.heap.size] rfl (Seg.ofBlk (cap := 0) (Blk.new _ _ #[]) (by simp) (by simp)) (some ad) n cap (l.map bv) rfl (by simpa using hl) (hr1.alloc _) (by simp) (by simp [bv, Value.oneCell']) (by simp only [maxLen]; omega) (by omega) ?_)
        intro v' w2 S' hseg hk2 hS
        rcases hseg.2 with ⟨_, h00, _⟩ | ⟨g, off, cap', cs, rfl, hSg, hbk, hfit, hnc, _, hcs⟩
        · omega
        have hK : Keeps [] w w2 := ((Keeps.of_below hb).alloc _).trans' hk2 (by intro x hx; simp at hx; subst hx; exact .inr hb.size)
        have hgS : ∀ x ∈ S', w1.heap.size ≤ x := by
          rcases hS with rfl | rfl
          · intro x hx; simp at hx; omega
          · intro x hx; simp at hx; omega
        have hgw : w1.heap.size ≤ g := hgS g (by rw [hSg]; simp)
        have hlw : ad.block < w.heap.size := by have := World.block_lt_of_cell? w _ hcd; rwa [add_block] at this
        have hw12 := hb.size
        have hcell : w2.cell? ⟨g, off + k, none⟩ = some (.int .u8 (l[k]'(by omega) : Nat)) := by rw [hbk.cell, hcs k (by omega)]; simp [bv, hl, hk]
        have hfro : w2.frozen? ⟨g, off + k, none⟩ = false := hbk.frozen _
        have hcd2 : w2.cell? (ad.add k) = some (.int .u8 (l[k]'(by omega) : Nat)) := by
          rw [hK.cell (by rw [add_block]; omega) (by simp), hcd]; simp [bv]
        have hne : ad.add k ≠ ⟨g, off + k, none⟩ := fun e => by have := congrArg Addr.block e; rw [add_block] at this; simp at this; omega
        have hseg3 := hseg.setAt k hk (bv tv)
        have hK3 : Keeps [] w (w2.setCell ⟨g, off + k, none⟩ (bv tv)) := hK.setCell _ (.inr (by simp; omega))
        have hcd3 : (w2.setCell ⟨g, off + k, none⟩ (bv tv)).cell? (ad.add k) = some (.int .u8 (l[k]'(by omega) : Nat)) := by
          rw [World.cell?_setCell_other _ _ _ _ (Ne.symm hne)]; exact hcd2
        rw [← List.map_set] at hseg3
        have hr3 := hr.keeps hK3 (by simp)
        obtain ⟨A', c', hv', _, _, hr4, _⟩ := hseg3.form
        simp only [Value.slice.injEq, true_and] at hv'
        obtain ⟨rfl, rfl⟩ := hv'
        clear hcs hbk hseg hcd hcd1 hcd2 hk2 hS hr1 hseg3 hne
        have ha := apart l k (by omega) tv (hx _ (List.getElem_mem _)) htv
        have hx' : ∀ x ∈ l.set k tv, x < 256 := fun x hxx => by rcases List.mem_or_eq_of_mem_set hxx with h | rfl; exact hx x h; exact htv
        have hbv : bv tv = .int .u8 (tv : Int) := rfl
        rw [hbv] at hr3 hr4 hcd3 hK3
        go_wp2_with fail
        generalize w2.setCell ⟨g, off + k, none⟩ (.int .u8 (tv : Int)) = w3 at *
        have hlt' : (k : Int) < (n : Int) := by omega
        go_quiet (first
          | (go_at_call_of 15 (Value.slice (some ad) n cap); exact Calls.quiet_of_same ((Of_any (some ad) n cap l _ hl (hr3.drewN _) hx (by simp only [maxLen]; omega)).mono fun e w' h => ⟨h.1, h.2.symm⟩))
          | (go_at_call 15; exact Calls.quiet_of_same ((Of_any (some ⟨g, off, none⟩) n cap' (l.set k tv) _ (by rw [List.length_set]; exact hl) (hr4.drewN _) hx' (by simp only [maxLen]; omega)).mono fun e w' h => ⟨h.1, h.2.symm⟩)))
        go_wp2
        go_ret
        refine ⟨?_, (hK3.drewN _).below⟩
        have e1 : ((ofS l : Int) == (ofS (l.set k tv) : Int)) = (((l[k]'(by omega) : Nat) : Int) == (tv : Int)) := by
          rw [Bool.eq_iff_iff, beq_iff_eq, beq_iff_eq]
          have := ha
          omega
        show Ending.returned (.bool _) = _
        rw [e1]
        simp
      · go_enter Try.func3, Try.ntmps3
        go_wp2_with (go_at_call 14; refine (awake5_any _).mono ?_; rintro e w1 ⟨rfl, hb⟩)
        go_ret
        exact ⟨rfl, hb⟩
    · go_enter Try.func3, Try.ntmps3
      go_wp2_with (go_at_call 14; refine (awake5_any _).mono ?_; rintro e w1 ⟨rfl, hb⟩)
      go_ret
      exact ⟨rfl, hb⟩
  · go_enter Try.func3, Try.ntmps3
    go_wp2_with (go_at_call 14; refine (awake5_any _).mono ?_; rintro e w1 ⟨rfl, hb⟩)
    go_ret
    exact ⟨rfl, hb⟩
end Go.Proofs.Ytibckdnfgopghaa
