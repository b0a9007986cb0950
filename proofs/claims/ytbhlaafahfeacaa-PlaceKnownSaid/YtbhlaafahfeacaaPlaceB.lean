/- Layer 14: ints, awake, the walk of PlaceKnown. -/
import Derived.Test.YtbhlaafahfeacaaPlaceA
import Derived.Deep.QuietTactic
import Derived.BigQuiet
namespace Go.Proofs.Ytbhlaafahfeacaa
open Go.RowKit

/-- Two slices of ints: alike? -/
theorem ints14_any (A B : Option Addr) (n c m d : Nat) (l s : List Int) (w : World) (hl : l.length = n) (hk : s.length = m) (hA : Rd w A (l.map (Value.int .i64))) (hB : Rd w B (s.map (Value.int .i64))) (hn : n ≤ maxLen) (hm : m ≤ maxLen) :
    Calls Try.prog 50 #[.slice A n c, .slice B m d] w fun e w' => e = .returned (.bool (decide (l = s))) ∧ ∃ q, w' = w.drewN q := by
  unfold maxLen at hn hm
  by_cases hne : n = m
  · subst hne
    generalize hR : decide (l = s) = R at *
    go_enter Try.func50, Try.ntmps50
    go_wp2_with fail
    go_loopw [5] (fun i wr => ∃ k q : Nat, k ≤ n ∧ i = .int .i64 k ∧ l.take k = s.take k ∧ Hid (wr = w.drewN q)) (fun i _ => n - (intOf i).toNat)
    case atStart => exact ⟨0, 0, Nat.zero_le _, rfl, rfl, rfl⟩
    case round =>
      obtain ⟨k, q, hk, rfl, ht, hwr⟩ := hrel
      by_cases hlt : k < n
      · obtain ⟨ad, rfl, hc⟩ := hA.at_ (j := k) (by simpa using (by omega : k < l.length))
        obtain ⟨bd, rfl, hd⟩ := hB.at_ (j := k) (by simpa using (by omega : k < s.length))
        have hc1 : wr.cell? (ad.add k) = some (.int .i64 (l[k]'(by omega))) := by rw [hwr.out, World.cell?_drewN, hc]; simp
        have hd1 : wr.cell? (bd.add k) = some (.int .i64 (s[k]'(by omega))) := by rw [hwr.out, World.cell?_drewN, hd]; simp
        have hl1 : k < l.length := by omega
        have hs1 : k < s.length := by omega
        have e1 := List.take_succ_eq_append_getElem hl1
        have e2 := List.take_succ_eq_append_getElem hs1
        clear hc hd
        generalize hx : l[k]'(by omega) = x at *
        generalize hy : s[k]'(by omega) = y at *
        by_cases hxy : x = y
        · have hq : (!(x == y)) = false := by simp [hxy]
          go_wp2_with fail
          go_quiet (fail)
          go_wp2_with fail
          go_roundw
          case rel => exact ⟨k + 1, _, by omega, by go_num, by rw [e1, e2, ht, hxy], by unfold Hid; rw [hwr.out, World.drewN_drewN]⟩
          case measure => simp [intOf]; omega
        · have hq : (!(x == y)) = true := by simp [hxy]
          have hRf : R = false := by
            rw [← hR]
            simp only [decide_eq_false_iff_not]
            rintro rfl
            exact hxy (hx.symm.trans hy)
          go_wp2_with fail
          go_quiet (fail)
          go_wp2_with fail
          go_ret
          exact ⟨by rw [hRf]; rfl, _, by rw [hwr.out, World.drewN_drewN]⟩
      · obtain rfl : k = n := by omega
        have hRt : R = true := by
          rw [← hR]
          simp only [decide_eq_true_eq]
          rw [List.take_of_length_le (by omega), List.take_of_length_le (by omega)] at ht
          exact ht
        go_wp2_with fail
        go_ret
        exact ⟨by rw [hRt]; rfl, _, hwr.out⟩
  · have e : decide (l = s) = false := by
      have : l ≠ s := by rintro rfl; omega
      simp [this]
    rw [e]
    have hneq : ((n : Int) == (m : Int)) = false := by simp; omega
    go_enter Try.func50, Try.ntmps50
    go_wp2
    go_ret
    exact ⟨rfl, 0, rfl⟩


theorem places_three (x : Sm) : places 7 3 x = [0, 1, 2] := by
  unfold places
  rw [if_pos (by decide)]
  show placesL (placeS 7 x) 1 3 = _
  simp only [placesL, Nat.mod_one]
  rfl

set_option maxRecDepth 100000 in
set_option maxHeartbeats 2000000 in
theorem awake14_any (w : World) : Calls Try.prog 34 #[] w fun e w' => e = .returned (.bool true) ∧ Below w.heap.size w w' := by
  have kc := fun (w : World) (C : Array Value) (n c : Nat) => Lib.run_convert_bytes_const (P := Try.prog) w 22 5 C n c Try.underlying22 Try.underlying5
  go_enter Try.func34, Try.ntmps34
  go_wp2_with fail
  refine (Of_any (some ⟨w.heap.size + 1, 0, none⟩) (w.heap.size + 1) 0 1 1 [[120]] _ rfl (by omega) (fun _ => rfl) ?_ (by simp) (by omega)).mono ?_
  · intro i l hi
    match i, hi with
    | 0, hi =>
      simp only [List.getElem?_cons_zero, Option.some.injEq] at hi
      subst hi
      exact ⟨_, _, (Blk.newAt (w.alloc _) _ #[.slice (some ⟨w.heap.size, 0, none⟩) 1 1] _ (by simp)).cell 0, (Rd.newF w _ #[.int .u8 120] _ _ rfl).alloc _, by simp, by decide⟩
  rintro e w1 ⟨rfl, hb1⟩
  have hb : Below w.heap.size w w1 := (((Keeps.refl [] w).alloc _).alloc _).below.trans (hb1.mono (by simp; omega))
  rw [show shaL [[120]].flatten = (shaSm [120]).l from rfl]
  clear hb1 kc
  generalize shaSm [120] = x at *
  have hpo := fun W => PlaceOf_any 7 3 x W (by omega)
  simp only [places_three] at hpo
  have hgd := fun W => Good_any 3 W
  have hg3 : goodN 3 = true := by decide
  rw [hg3] at hgd
  have HPO := Lib.hid hpo
  have HGD := Lib.hid hgd
  clear hpo hgd hg3
  go_wp2_with fail
  refine (HPO.out _).mono ?_
  rintro e w2 ⟨A, c, S, rfl, hO, hS, hb2⟩
  have hrd := hO.rd
  have hbb := hb.trans (hb2.mono hb.size)
  clear hO hS hb hb2
  go_wp2_with fail
  refine (ints14_any A (some ⟨w2.heap.size, 0, none⟩) 3 c 3 3 [0, 1, 2] [0, 1, 2] _ rfl rfl (hrd.alloc _) (Rd.of_blk0 (Blk.new w2 _ #[.int .i64 0, .int .i64 1, .int .i64 2])) (by simp [maxLen]) (by simp [maxLen])).mono ?_
  rintro e w3 ⟨rfl, q, hq⟩
  rw [decide_eq_true rfl]
  have hb3 : Below w.heap.size w w3 := by rw [hq]; exact (((Keeps.of_below (S := []) hbb).alloc _).drewN q).below
  clear hq
  go_wp2_with fail
  refine (HGD.out _).mono ?_
  rintro e w4 ⟨rfl, rfl⟩
  go_wp2_with fail
  go_ret
  exact ⟨rfl, hb3⟩

def badL : List Int := [0, -3, 1, 4, 1024, 1026, 1099511627776]
theorem bad_all : ∀ k, k < 7 → goodN (badL.getD k 0) = false := by decide

set_option maxRecDepth 100000 in
set_option maxHeartbeats 2000000 in
theorem lawPlaceKnown_any (w : World) : Calls Try.prog 11 #[] w fun e w' => e = .returned (.bool true) ∧ Below w.heap.size w w' := by
  go_enter Try.func11, Try.ntmps11
  go_wp2_with fail
  refine (awake14_any _).mono ?_
  rintro e w1 ⟨rfl, hb1⟩
  go_wp2_with fail
  have hB := Blk.new w1 3 #[.int .i64 0, .int .i64 (-3), .int .i64 1, .int .i64 4, .int .i64 1024, .int .i64 1026, .int .i64 1099511627776]
  have hb : Below w.heap.size w (w1.alloc (.cells #[.int .i64 0, .int .i64 (-3), .int .i64 1, .int .i64 4, .int .i64 1024, .int .i64 1026, .int .i64 1099511627776] 3)) := ((Keeps.of_below (S := []) hb1).alloc _).below
  have hbad : #[.int .i64 0, .int .i64 (-3), .int .i64 1, .int .i64 4, .int .i64 1024, .int .i64 1026, .int .i64 1099511627776] = (badL.map (Value.int .i64)).toArray := rfl
  rw [hbad] at hB
  have hzl : u8s Sm.zero.l = #[.int .u8 0, .int .u8 0, .int .u8 0, .int .u8 0, .int .u8 0, .int .u8 0, .int .u8 0, .int .u8 0, .int .u8 0, .int .u8 0, .int .u8 0, .int .u8 0, .int .u8 0, .int .u8 0, .int .u8 0, .int .u8 0, .int .u8 0, .int .u8 0, .int .u8 0, .int .u8 0, .int .u8 0, .int .u8 0, .int .u8 0, .int .u8 0, .int .u8 0, .int .u8 0, .int .u8 0, .int .u8 0, .int .u8 0, .int .u8 0, .int .u8 0, .int .u8 0] := zeros_lit
  have hof := fun (z : Int) W => PlaceOf_any 1 z Sm.zero W (by omega)
  rw [hzl] at hof
  have HOF := Lib.hid hof
  clear hbad hzl hof hb1
  generalize w1.heap.size = g at *
  rw [show (#[.int .i64 0, .int .i64 (-3), .int .i64 1, .int .i64 4, .int .i64 1024, .int .i64 1026, .int .i64 1099511627776] : Array Value) = (badL.map (Value.int .i64)).toArray from rfl] at hb ⊢
  go_loopw [2] (fun i wr => ∃ k : Nat, k ≤ 7 ∧ i = .int .i64 k ∧ Blk wr g 3 (badL.map (Value.int .i64)).toArray ∧ Below w.heap.size w wr) (fun i _ => 7 - (intOf i).toNat)
  case atStart => exact ⟨0, by omega, rfl, hB, hb⟩
  case round =>
    clear hB hb
    obtain ⟨k, hk, rfl, hB, hb⟩ := hrel
    by_cases hk7 : k < 7
    · have hgd := fun W => Good_any (badL.getD k 0) W
      have hg := bad_all k hk7
      rw [hg] at hgd
      have hcell : ∀ W, Blk W g 3 (badL.map (Value.int .i64)).toArray → W.cell? ⟨g, k, none⟩ = some (.int .i64 (badL.getD k 0)) := fun W h => by
        rw [h.cell]
        have hl : k < badL.length := hk7
        simp [List.getElem?_eq_getElem hl, List.getD]
      have hof : ∀ W, _ := fun W => HOF.out (badL.getD k 0) W
      have hpl : places 1 (badL.getD k 0) Sm.zero = [] := by unfold places; rw [if_neg (by rw [hg]; simp)]
      rw [hpl] at hof
      have HG := Lib.hid hgd
      have HO := Lib.hid hof
      have hc0 := hcell wr hB
      have k7i : (k : Int) < 7 := by omega
      clear hgd hof hpl hg hcell
      generalize badL.getD k 0 = z at *
      go_wp2_with (first
        | (go_at_call 35; refine (HG.out _).mono ?_; rintro e w3 ⟨rfl, rfl⟩)
        | (go_at_call 36; refine (HO.out _).mono ?_; rintro e w4 ⟨A, c, S, rfl, hO, hS, hb4⟩))
      exact ⟨⟨k + 1, by omega, by go_num, hB.below hb4, hb.trans (hb4.mono hb.size)⟩, by simp [intOf]; omega⟩
    · obtain rfl : k = 7 := by omega
      rw [show ((7 : Nat) : Int) = 7 from rfl]
      have hgd := fun W => Good_any 1023 W
      have hg3 : goodN 1023 = true := by decide
      rw [hg3] at hgd
      have hof : ∀ W, _ := fun W => HOF.out 1023 W
      have hpl : (places 1 1023 Sm.zero).length = 3 := by unfold places; rw [if_pos hg3, placesL_len]
      rw [hpl] at hof
      have HG := Lib.hid hgd
      have HO := Lib.hid hof
      clear hgd hof hpl hg3
      go_wp2_with (first
        | (go_at_call 35; refine (HG.out _).mono ?_; rintro e w3 ⟨rfl, rfl⟩)
        | (go_at_call 36; refine (HO.out _).mono ?_; rintro e w4 ⟨A, c, S, rfl, hO, hS, hb4⟩))
      go_ret
      exact ⟨rfl, hb.trans (hb4.mono hb.size)⟩
end Go.Proofs.Ytbhlaafahfeacaa
