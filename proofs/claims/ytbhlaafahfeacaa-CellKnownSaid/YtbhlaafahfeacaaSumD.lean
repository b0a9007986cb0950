/- Layer 1: the walk of SumOrder, as far as the three sums are laid. -/
import Derived.Test.YtbhlaafahfeacaaSumC
import Derived.Test.YtbhlaafahfeacaaCmpA
import Derived.Test.YtbhlaafahfeacaaWord
import Derived.Test.YtbhlaafahfeacaaOrdP
namespace Go.Proofs.Ytbhlaafahfeacaa
open Go.RowKit

set_option maxRecDepth 100000 in
set_option maxHeartbeats 4000000 in
theorem lawSumOrder_any (x y z : Sm) (w : World) :
    Calls Try.prog 6 #[.agg (u8s x.l), .agg (u8s y.l), .agg (u8s z.l)] w fun e w' => e = .returned (.bool true) ∧ Below w.heap.size w w' := by
  have hu := Try.underlying26
  have hu2 := Try.underlying27
  go_enter Try.func6, Try.ntmps6
  go_wp2_with fail
  refine (awake1_any _).mono ?_
  rintro e w1 ⟨rfl, hb1⟩
  have hX : Blk w1 w.heap.size 26 (u8s x.l) := (((Blk.new w _ _).alloc _).alloc _).below hb1
  have hY : Blk w1 (w.heap.size + 1) 26 (u8s y.l) := ((Blk.newAt (w.alloc _) _ _ _ (by simp)).alloc _).below hb1
  have hZ : Blk w1 (w.heap.size + 1 + 1) 26 (u8s z.l) := (Blk.newAt ((w.alloc _).alloc _) _ _ _ (by simp)).below hb1
  have hb : Below w.heap.size w w1 := ((((Keeps.refl [] w).alloc _).alloc _).alloc _).below.trans (hb1.mono (by simp; omega))
  clear hb1
  go_wp2_with fail
  refine region_decl (m := 3) (k := 3) ⟨fun i => [17, 18, 19].getD i 0, fun i => .agg (u8s ([x, y, z].getD i x).l), fun i => [7, 8, 9].getD i 0, fun i => i, fun i => u8s ([x, y, z].getD i x).l, fun _ => 27, fun _ => u8s (List.replicate 32 0)⟩
    (by kernel_rfl) (backB_spec (by kernel_rfl)) rfl ?_ ?_ ?_ ?_ ?_ ?_ ?_ ?_ ?_
  · intro i o hi ho
    have hout : ∀ {s : Nat}, s = 3 ∨ s = 4 ∨ s = 5 → (∀ i, i < 3 → s ≠ [17, 18, 19].getD i 0) ∧ ∀ i, i < 3 → s ≠ [7, 8, 9].getD i 0 := by
      intro s hs
      constructor <;> intro i hi <;> rcases lt3 hi with rfl | rfl | rfl <;> simp <;> omega
    rcases lt3 hi with rfl | rfl | rfl
    · injection ho with ho
      subst ho
      exact ⟨rfl, rfl, fun a w' K h1 h2 _ h4 => wp_load_a32 3 rfl w.heap.size _ x ((h1 3 (hout (by simp))).trans rfl) (hX.keeps h2 (by simp)) (h4 w' (Keeps.refl _ _))⟩
    · injection ho with ho
      subst ho
      exact ⟨rfl, rfl, fun a w' K h1 h2 _ h4 => wp_load_a32 4 rfl (w.heap.size + 1) _ y ((h1 4 (hout (by simp))).trans rfl) (hY.keeps h2 (by simp)) (h4 w' (Keeps.refl _ _))⟩
    · injection ho with ho
      subst ho
      exact ⟨rfl, rfl, fun a w' K h1 h2 _ h4 => wp_load_a32 5 rfl (w.heap.size + 1 + 1) _ z ((h1 5 (hout (by simp))).trans rfl) (hZ.keeps h2 (by simp)) (h4 w' (Keeps.refl _ _))⟩
  · intro j o hj ho
    rcases lt3 hj with rfl | rfl | rfl <;> (injection ho with ho; subst ho; exact ⟨rfl, rfl, fun a w' K h => wp_alloc_sum rfl h⟩)
  · intro j o hj ho
    rcases lt3 hj with rfl | rfl | rfl <;> (injection ho with ho; subst ho; refine ⟨rfl, rfl, rfl, by simp, rfl, ?_, ?_, ?_, ?_, u8s_one _⟩)
    all_goals first
      | exact ⟨_, Array.mem_of_getElem? (i := 0) rfl, rfl, rfl⟩
      | exact ⟨_, Array.mem_of_getElem? (i := 1) rfl, rfl, rfl⟩
      | (rw [u8s_size, u8s_size]; simp [Sm.len])
      | (rw [u8s_size]; simp only [Sm.len]; exact info32)
  · intro i j hi hj hne
    rcases lt3 hi with rfl | rfl | rfl <;> rcases lt3 hj with rfl | rfl | rfl <;> simp at hne ⊢
  · intro i j hi hj hne
    rcases lt3 hi with rfl | rfl | rfl <;> rcases lt3 hj with rfl | rfl | rfl <;> simp at hne ⊢
  · intro i j hi hj
    rcases lt3 hi with rfl | rfl | rfl <;> rcases lt3 hj with rfl | rfl | rfl <;> simp
  · intro i hi
    rcases lt3 hi with rfl | rfl | rfl <;> simp
  · intro i hi
    rcases lt3 hi with rfl | rfl | rfl <;> simp
  · intro g a w2 hk hg hgn hd hs h1 h2 h3
    have hact := act_is (a := a) [(17, .agg (u8s x.l)), (18, .agg (u8s y.l)), (19, .agg (u8s z.l)), (7, .pointer (some ⟨g 0, 0, none⟩)), (8, .pointer (some ⟨g 1, 0, none⟩)), (9, .pointer (some ⟨g 2, 0, none⟩))] hd hs ?_ ?_
    rotate_left
    · intro s hs'
      refine h1 s ⟨fun i hi => ?_, fun i hi => ?_⟩ <;> rcases lt3 hi with rfl | rfl | rfl <;> simp at hs' ⊢ <;> omega
    · intro p hp
      simp only [List.mem_cons, List.not_mem_nil, or_false] at hp
      rcases hp with rfl | rfl | rfl | rfl | rfl | rfl
      · exact h2 0 (by omega)
      · exact h2 1 (by omega)
      · exact h2 2 (by omega)
      · exact h3 0 (by omega)
      · exact h3 1 (by omega)
      · exact h3 2 (by omega)
    rw [hact]
    simp only [fold1, List.foldl_cons, List.foldl_nil, List.setIfInBounds_toArray, List.set_cons_succ, List.set_cons_zero]
    obtain ⟨g0, hB0⟩ := hg 0 (by omega)
    obtain ⟨g1, hB1⟩ := hg 1 (by omega)
    obtain ⟨g2, hB2⟩ := hg 2 (by omega)
    have hb2 : Below w.heap.size w w2 := (hb.trans (hk.below.mono hb.size))
    clear hact h1 h2 h3 hd hs hg hgn hX hY hZ hk hb
    generalize g 0 = gx at *
    generalize g 1 = gy at *
    generalize g 2 = gz at *
    have lx := load_sum x hB0
    have ly := load_sum y hB1
    have lz := load_sum z hB2
    go_wp2_with fail
    refine wp_region_later (by kernel_rfl) (by kernel_rfl) ?_
    repeat (first
      | go_big_quiet_skip
      | (go_big_quiet_want
         first
         | ((first | refine quiet_load _ _ rfl _ _ rfl lx ?_ | refine quiet_load _ _ rfl _ _ rfl ly ?_ | refine quiet_load _ _ rfl _ _ rfl lz ?_)
            simp only [Act.put, List.setIfInBounds_toArray, List.set_cons_succ, List.set_cons_zero]
            go_big_quiet_on)
         | (go_big_quiet_op
            first
            | go_big_quiet_on
            | (go_big_quiet_call ((go_at_call 23; exact later_of (Cmp_any _ _ _)))))))
    refine wpQuiet_nil ?_
    rintro _ ⟨p, rfl⟩
    have hX3 := hB0.below p.below
    have hY3 := hB1.below p.below
    have hb3 := hb2.trans (p.below.mono hb2.size)
    clear lx ly lz hB0 hB1 hB2 hb2
    generalize p.wd = w3 at *
    go_wp2_with fail
    have hc1 := cmpL_trans x.l y.l z.l
    have hc2 := cmpL_three x.l y.l
    have hc3 := cmpL_three y.l z.l
    have HT := Lib.hid (less_text x y)
    clear hu hu2
    generalize hp : cmpL x.l y.l = P at *
    generalize cmpL y.l z.l = Q at *
    generalize cmpL x.l z.l = R at *
    clear hp
    go_loopw [13, 14] (fun v i wr => ∃ k : Nat, k ≤ 4 ∧ i = .int .i64 k ∧ v = .bool (sameW x.l y.l k) ∧ Blk wr gx 27 (u8s x.l) ∧ Blk wr gy 27 (u8s y.l) ∧ Below w.heap.size w wr) (fun _ i _ => 4 - (intOf i).toNat)
    case atStart => exact ⟨0, by omega, rfl, rfl, hX3, hY3, hb3⟩
    case round =>
      clear hX3 hY3 hb3
      obtain ⟨k, hk, rfl, rfl, hX3, hY3, hb3⟩ := hrel
      by_cases hk4 : k < 4
      · have hs1 : sameW x.l y.l (k + 1) = (sameW x.l y.l k && (((wordL x.l (k : Int) : Nat) : Int) == ((wordL y.l (k : Int) : Nat) : Int))) := rfl
        have HS1 := Lib.hid hs1
        have lx := load_sum x hX3
        have ly := load_sum y hY3
        clear hs1 hc1 hc2 hc3
        have hWx := fun W => Word_any x (k : Int) W
        have hWy := fun W => Word_any y (k : Int) W
        have HWX := Lib.hid hWx
        have HWY := Lib.hid hWy
        clear hWx hWy
        generalize wordL x.l (k : Int) = a at *
        generalize wordL y.l (k : Int) = b at *
        cases hsv : sameW x.l y.l k with
        | false =>
          rw [hsv, Bool.false_and] at HS1
          clear HWX HWY hsv
          go_wp2_with fail
          refine wp_region_later (by kernel_rfl) (by kernel_rfl) ?_
          repeat (first
            | go_big_quiet_skip
            | (go_big_quiet_want
               first
               | ((first | refine quiet_load _ _ rfl _ _ rfl lx ?_ | refine quiet_load _ _ rfl _ _ rfl ly ?_)
                  simp only [Act.put, List.setIfInBounds_toArray, List.set_cons_succ, List.set_cons_zero]
                  go_big_quiet_on)
               | (go_big_quiet_op
                  first
                  | go_big_quiet_on
                  | (go_big_quiet_call (fail)))))
          refine wpQuiet_nil ?_
          rintro _ ⟨p, rfl⟩
          have hX4 := hX3.below p.below
          have hY4 := hY3.below p.below
          have hb4 := hb3.trans (p.below.mono hb3.size)
          clear lx ly hX3 hY3 hb3
          generalize p.wd = w4 at *
          go_wp2_with fail
          exact ⟨⟨k + 1, by omega, by go_num, by rw [HS1.out], hX4, hY4, hb4⟩, by simp [intOf]; omega⟩
        | true =>
          rw [hsv, Bool.true_and] at HS1
          clear hsv
          generalize hcmp : ((a : Int) == (b : Int)) = c at *
          go_wp2_with fail
          refine wp_region_later (by kernel_rfl) (by kernel_rfl) ?_
          repeat (first
            | go_big_quiet_skip
            | (go_big_quiet_want
               first
               | ((first | refine quiet_load _ _ rfl _ _ rfl lx ?_ | refine quiet_load _ _ rfl _ _ rfl ly ?_)
                  simp only [Act.put, List.setIfInBounds_toArray, List.set_cons_succ, List.set_cons_zero]
                  go_big_quiet_on)
               | (go_big_quiet_op
                  first
                  | go_big_quiet_on
                  | (go_big_quiet_call ((go_at_call 24; first | with_reducible exact later_of (HWX.out _) | with_reducible exact later_of (HWY.out _)))))))
          refine wpQuiet_nil ?_
          rintro _ ⟨p, rfl⟩
          have hX4 := hX3.below p.below
          have hY4 := hY3.below p.below
          have hb4 := hb3.trans (p.below.mono hb3.size)
          clear lx ly hX3 hY3 hb3
          generalize p.wd = w4 at *
          go_wp2_with fail
          exact ⟨⟨k + 1, by omega, by go_num, by rw [HS1.out], hX4, hY4, hb4⟩, by simp [intOf]; omega⟩
      · obtain rfl : k = 4 := by omega
        rw [sameW_all x y]
        rw [show ((4 : Nat) : Int) = 4 from rfl]
        have lx := load_sum x hX3
        have ly := load_sum y hY3
        have e1 : ∀ W, (binOp .eql 27 (.agg (u8s x.l)) (.agg (u8s y.l))).run Try.prog W = .ok (.bool (decide (x = y))) W := fun W => eql_sm x y W
        have hgd : Try.prog.eqGuardType Try.prog.depth 27 = false := by kernel_rfl
        have hTx := fun W => Text_any x W
        have hTy := fun W => Text_any y W
        have HTX := Lib.hid hTx
        have HTY := Lib.hid hTy
        have E1 := Lib.hid e1
        have HC1 := Lib.hid hc1
        clear hTx hTy e1 hc1
        generalize decide (x = y) = c at *
        generalize strB (hexS x.l) = tx at *
        generalize strB (hexS y.l) = ty at *
        have cases5 : (0 < P ∧ 0 ≤ P ∧ ¬ P < 0) ∨ (¬ 0 < P ∧ 0 < Q ∧ 0 ≤ P ∧ ¬ P < 0) ∨ (¬ 0 < P ∧ ¬ 0 < Q ∧ R ≤ 0 ∧ 0 ≤ P ∧ ¬ P < 0) ∨ (¬ 0 < P ∧ 0 < Q ∧ ¬ 0 ≤ P ∧ P < 0) ∨ (¬ 0 < P ∧ ¬ 0 < Q ∧ R ≤ 0 ∧ ¬ 0 ≤ P ∧ R < 0 ∧ P < 0) := by
          have h := HC1.out
          by_cases a1 : 0 < P
          · exact .inl ⟨a1, by omega, by omega⟩
          · by_cases a2 : 0 < Q
            · by_cases a3 : 0 ≤ P
              · exact .inr (.inl ⟨a1, a2, a3, by omega⟩)
              · exact .inr (.inr (.inr (.inl ⟨a1, a2, a3, by omega⟩)))
            · have h1 := h (by omega) (by omega)
              by_cases a3 : 0 ≤ P
              · exact .inr (.inr (.inl ⟨a1, a2, h1.1, a3, by omega⟩))
              · exact .inr (.inr (.inr (.inr ⟨a1, a2, h1.1, a3, h1.2 (by omega), by omega⟩)))
        have HTT := HT.out
        clear HC1 hc2 hc3 HT hX3 hY3
        rcases cases5 with ⟨c1, c2, c3⟩ | ⟨c1, c4, c2, c3⟩ | ⟨c1, c4, c5, c2, c3⟩ | ⟨c1, c4, c2, c3⟩ | ⟨c1, c4, c5, c2, c6, c3⟩
        all_goals
          first
            | rw [decide_eq_false c3] at HTT
            | rw [decide_eq_true c3] at HTT
          go_wp2_with fail
          first | (have d0 : decide (0 < P) = true := decide_eq_true (by omega)) | (have d0 : decide (0 < P) = false := decide_eq_false (by omega)) | skip
          first | (have d1 : decide (P < 0) = true := decide_eq_true (by omega)) | (have d1 : decide (P < 0) = false := decide_eq_false (by omega)) | skip
          first | (have d2 : decide (0 ≤ P) = true := decide_eq_true (by omega)) | (have d2 : decide (0 ≤ P) = false := decide_eq_false (by omega)) | skip
          first | (have d3 : decide (0 < Q) = true := decide_eq_true (by omega)) | (have d3 : decide (0 < Q) = false := decide_eq_false (by omega)) | skip
          first | (have d4 : decide (R ≤ 0) = true := decide_eq_true (by omega)) | (have d4 : decide (R ≤ 0) = false := decide_eq_false (by omega)) | skip
          first | (have d5 : decide (R < 0) = true := decide_eq_true (by omega)) | (have d5 : decide (R < 0) = false := decide_eq_false (by omega)) | skip
          clear c1 c2
          try clear c3
          try clear c4
          try clear c5
          try clear c6
          refine wp_region_later (by kernel_rfl) (by kernel_rfl) ?_
          repeat (first
            | go_big_quiet_skip
            | (go_big_quiet_want
               first
               | ((first | refine quiet_load _ _ rfl _ _ rfl lx ?_ | refine quiet_load _ _ rfl _ _ rfl ly ?_ | refine quiet_eql _ _ _ _ rfl _ _ _ rfl rfl hgd E1.out ?_)
                  simp only [Act.put, List.setIfInBounds_toArray, List.set_cons_succ, List.set_cons_zero]
                  go_big_quiet_on)
               | (go_big_quiet_op
                  first
                  | go_big_quiet_on
                  | (go_big_quiet_call ((go_at_call 25; first | with_reducible exact later_of (HTX.out _) | with_reducible exact later_of (HTY.out _)))))))
          refine wpQuiet_nil ?_
          rintro _ ⟨p, rfl⟩
          have hbf := hb3.trans (p.below.mono hb3.size)
          go_wp2_with fail
          go_ret
          exact ⟨rfl, hbf⟩
end Go.Proofs.Ytbhlaafahfeacaa
