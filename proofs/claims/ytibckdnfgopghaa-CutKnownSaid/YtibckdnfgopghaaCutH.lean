/- Layer 6: the walk of CutFew; its plain law. -/
import Derived.Test.YtibckdnfgopghaaCutG
namespace Go.Proofs.Ytibckdnfgopghaa
open Go.RowKit

theorem ends_few (f : List Nat → Nat) (mn mx : Nat) (hf : ∀ b : List Nat, b.length ≠ 0 → 1 ≤ f b ∧ f b ≤ b.length) (h1 : ∀ b : List Nat, f b ≤ mx ∧ (mn ≤ f b ∨ f b = b.length)) (b : List Nat) :
    ((ends f 0 b).length = 0 ↔ b.length = 0) ∧ (0 :: ends f 0 b).getD (ends f 0 b).length 0 = 0 + b.length ∧ b.length ≤ (ends f 0 b).length * mx ∧ ((ends f 0 b).length - 1) * mn ≤ b.length := by
  refine ends_ind f hf (fun s b E => (E.length = 0 ↔ b.length = 0) ∧ (s :: E).getD E.length 0 = s + b.length ∧ b.length ≤ E.length * mx ∧ (E.length - 1) * mn ≤ b.length) ?_ ?_ b.length 0 b (Nat.le_refl _)
  · intro s; simp
  · intro s b hb ih
    have h2 := hf b hb
    have h3 := h1 b
    obtain ⟨i1, i2, i3, i4⟩ := ih
    rw [List.length_drop] at i1 i2 i3 i4
    generalize ends f (s + f b) (b.drop (f b)) = E at *
    refine ⟨by rw [List.length_cons]; omega, ?_, ?_, ?_⟩
    · rw [List.length_cons, List.getD_cons_succ, i2]; omega
    · rw [List.length_cons, Nat.add_mul, Nat.one_mul]; omega
    · rw [List.length_cons, Nat.add_sub_cancel]
      by_cases hE : E.length = 0
      · rw [hE]; omega
      · obtain ⟨k, hk⟩ : ∃ k, E.length = k + 1 := ⟨E.length - 1, by omega⟩
        rw [hk, Nat.add_sub_cancel] at i4
        rw [hk, Nat.add_mul, Nat.one_mul]
        omega
theorem endsR_few (mn mx wd : Nat) (mask want : Nat) (b : List Nat) (hg : goodS mn mx wd = true) :
    ((endsR mn mx wd mask want b).length = 0 ↔ b.length = 0) ∧ (0 :: endsR mn mx wd mask want b).getD (endsR mn mx wd mask want b).length 0 = b.length ∧ b.length ≤ (endsR mn mx wd mask want b).length * mx ∧ ((endsR mn mx wd mask want b).length - 1) * mn ≤ b.length := by
  have ⟨g1, g2, g3, g4, g5⟩ := good_nat hg
  have := ends_few (nextR mn mx wd mask want) mn mx (nextR_f mask want hg) (fun b => by
    have e1 := nextS_bounds mn mx wd mask want b (by omega) g4
    unfold nextR
    rw [if_pos hg]
    simp only [Int.toNat_natCast]
    omega) b
  unfold endsR
  rw [if_pos hg]
  simpa using this

theorem lawFew_go (mn mx wd : Nat) (mask want : Nat) (A : Option Addr) (n c : Nat) (b : List Nat) (w : World) (hl : b.length = n) (hmc : n ≤ c) (hr : Rd w A (b.map bv)) (hA : A = none → n = 0) (hx : ∀ x ∈ b, x < 256)
    (hm : mask < 18446744073709551616) (hg : goodS mn mx wd = true) (h3 : n ≤ 400) :
    Calls Try.prog 13 #[.agg #[.int .i64 mn, .int .i64 mx, .int .i64 wd, .int .u64 mask, .int .u64 want], .slice A n c] w fun e w' => e = .returned (.bool true) ∧ Below w.heap.size w w' := by
  have hfw := endsR_few mn mx wd mask want b hg
  have hbd := endsR_bounds mn mx wd mask want b
  have ⟨g1, g2, g3, g4, g5⟩ := good_nat hg
  rw [hl] at hfw
  generalize hEE : endsR mn mx wd mask want b = E at *
  have hix := ends_index hbd
  go_enter Try.func13, Try.ntmps13
  go_wp2_with fail
  refine (awake6_any _).mono ?_
  rintro e w1 ⟨rfl, hb1⟩
  have hR1 := (Blk.new w 37 #[.int .i64 mn, .int .i64 mx, .int .i64 wd, .int .u64 mask, .int .u64 want]).below hb1
  have hB1 := ((Below.refl w.heap.size w).alloc (Nat.le_refl _) (.cells #[.int .i64 mn, .int .i64 mx, .int .i64 wd, .int .u64 mask, .int .u64 want] 37)).trans (hb1.mono (by simp))
  clear hb1
  obtain ⟨q0, q1, q2, q3, q4⟩ := rule5 hR1
  go_wp2_with fail
  refine (Good_any mn mx wd mask want _).mono ?_
  rintro e w2 ⟨rfl, hb2⟩
  rw [hg]
  have hB2 := hB1.trans (hb2.mono hB1.size)
  replace hR1 := hR1.below hb2
  clear q0 q1 q2 q3 q4 hB1 hb2
  obtain ⟨q0, q1, q2, q3, q4⟩ := rule5 hR1
  go_wp2_with fail
  refine (Ends_any mn mx wd mask want A n c b w2 hl hmc (hr.below hB2) hA hx (by omega) hm).mono ?_
  rintro e w3 ⟨v, S, rfl, hseg, hS, hb3⟩
  rw [hEE] at hseg
  obtain ⟨eA, eC, rfl, he1, he2, heR, heB, heN⟩ := hseg.form
  have hB3 := hB2.trans (hb3.mono hB2.size)
  replace hR1 := hR1.below hb3
  clear q0 q1 q2 q3 q4 hB2 hb3
  obtain ⟨q0, q1, q2, q3, q4⟩ := rule5 hR1
  go_wp2_with fail
  have hL : E.length ≤ 400 := by
    have := hix E.length (Nat.le_refl _)
    rw [hfw.2.1] at this
    omega
  have hcl : ∀ q i, i < E.length → ∃ ad, eA = some ad ∧ (w3.drewN q).cell? (ad.add i) = some (.int .i64 (E.getD i 0 : Nat)) := fun q i hi => by
    obtain ⟨ad, rfl, hc⟩ := heR.at_ (j := i) (by simpa using hi)
    exact ⟨ad, rfl, by rw [World.cell?_drewN, hc]; simp [iv, List.getD, List.getElem?_eq_getElem hi]⟩
  go_loopw [7] (fun i wr => ∃ k q : Nat, k ≤ E.length ∧ i = .int .i64 k ∧ Hid (wr = w3.drewN q)) (fun i _ => E.length - (intOf i).toNat)
  case atStart => exact ⟨0, 0, Nat.zero_le _, rfl, rfl⟩
  case round =>
    clear q0 q1 q2 q3 q4
    obtain ⟨k, q, hk, rfl, hwr⟩ := hrel
    by_cases hlt : k < E.length
    · obtain ⟨ad, rfl, hc⟩ := hcl q k hlt
      rw [← hwr.out] at hc
      obtain ⟨b1, b2⟩ := hbd k hlt
      rcases Nat.eq_zero_or_pos k with hk0 | hk0
      · subst hk0
        have b1' : 0 < E.getD 0 0 := by simpa using b1
        generalize E.getD 0 0 = y at *
        rw [Addr.add_zero'] at hc
        go_wp2_with fail
        go_roundw
        case rel => exact ⟨1, q, by omega, rfl, hwr⟩
        case measure => simp [intOf]; omega
      · obtain ⟨ad', hade, hc'⟩ := hcl q (k - 1) (by omega)
        injection hade with hade
        subst hade
        rw [← hwr.out] at hc'
        have hgd : (0 :: E).getD k 0 = E.getD (k - 1) 0 := by
          obtain ⟨j, rfl⟩ : ∃ j, k = j + 1 := ⟨k - 1, by omega⟩
          rw [List.getD_cons_succ, Nat.add_sub_cancel]
        rw [hgd] at b1
        generalize E.getD (k - 1) 0 = x at *
        generalize E.getD k 0 = y at *
        go_wp2_with fail
        go_roundw
        case rel => exact ⟨k + 1, q, by omega, by go_num, hwr⟩
        case measure => simp [intOf]; omega
    · obtain rfl : k = E.length := by omega
      have hBf : Below w.heap.size w wr := by rw [hwr.out]; exact hB3.trans ((((Keeps.refl [] w3).drewN _).below).mono hB3.size)
      have hRf : Blk wr w.heap.size 37 #[.int .i64 mn, .int .i64 mx, .int .i64 wd, .int .u64 mask, .int .u64 want] := by rw [hwr.out]; exact hR1.drewN q
      obtain ⟨q0, q1, q2, q3, q4⟩ := rule5 hRf
      obtain ⟨f1, f2, f3, f4⟩ := hfw
      have hP : E.length * mx ≤ 400 * 65536 := Nat.mul_le_mul (by omega) (by omega)
      have hBl := Lib.hid hBf
      rcases Nat.eq_zero_or_pos E.length with h0 | h0
      · have hn0 : n = 0 := f1.1 h0
        rw [h0] at *
        subst hn0
        go_wp2_with fail
        go_ret
        exact ⟨rfl, hBl.out⟩
      · have hn0 : n ≠ 0 := fun e => by have := f1.2 e; omega
        obtain ⟨ad, rfl, hc⟩ := hcl q (E.length - 1) (by omega)
        rw [← hwr.out] at hc
        have hgd : E.getD (E.length - 1) 0 = n := by
          rw [← f2]
          obtain ⟨j, hj⟩ : ∃ j, E.length = j + 1 := ⟨E.length - 1, by omega⟩
          rw [hj, List.getD_cons_succ, Nat.add_sub_cancel]
        rw [hgd] at hc
        generalize E.length = L at *
        have e0 : ((L : Int) == 0) = false := by simp; omega
        have e1 : ((n : Int) == 0) = false := by simp; omega
        have e2 : ((n : Int) ≤ (L : Int) * (mx : Int)) := by exact_mod_cast f3
        have e3 : IntKind.i64.wrap ((L : Int) * (mx : Int)) = (L : Int) * (mx : Int) := by
          have h5 : ((L * mx : Nat) : Int) ≤ 26214400 := by omega
          rw [Int.natCast_mul] at h5
          have : (0 : Int) ≤ (L : Int) * (mx : Int) := Int.mul_nonneg (by omega) (by omega)
          generalize (L : Int) * (mx : Int) = P at *
          rw [IntKind.wrap_i64]; omega
        by_cases h2 : L < 2
        · go_wp2_with fail
          go_ret
          exact ⟨rfl, hBl.out⟩
        · have e4 : ((L : Int) - 1) * (mn : Int) ≤ (n : Int) := by
            have h5 : (((L - 1) * mn : Nat) : Int) ≤ (n : Int) := by exact_mod_cast f4
            rw [Int.natCast_mul] at h5
            have : ((L - 1 : Nat) : Int) = (L : Int) - 1 := by omega
            rwa [this] at h5
          have e5 : IntKind.i64.wrap (((L : Int) - 1) * (mn : Int)) = ((L : Int) - 1) * (mn : Int) := by
            have : (0 : Int) ≤ ((L : Int) - 1) * (mn : Int) := Int.mul_nonneg (by omega) (by omega)
            generalize ((L : Int) - 1) * (mn : Int) = P at *
            rw [IntKind.wrap_i64]; omega
          go_wp2_with fail
          go_ret
          exact ⟨rfl, hBl.out⟩

theorem lawFew_any (mn mx wd : Int) (mask want : Nat) (A : Option Addr) (n c : Nat) (b : List Nat) (w : World) (hl : b.length = n) (hmc : n ≤ c) (hr : Rd w A (b.map bv)) (hA : A = none → n = 0) (hx : ∀ x ∈ b, x < 256) (hn : n ≤ maxLen)
    (hm : mask < 18446744073709551616) :
    Calls Try.prog 13 #[.agg #[.int .i64 mn, .int .i64 mx, .int .i64 wd, .int .u64 mask, .int .u64 want], .slice A n c] w fun e w' => e = .returned (.bool true) ∧ Below w.heap.size w w' := by
  unfold maxLen at hn
  by_cases hg : goodS mn mx wd = true
  · by_cases h3 : n ≤ 400
    · obtain ⟨mn, mx, wd, rfl, rfl, rfl⟩ := good_cast hg
      exact lawFew_go mn mx wd mask want A n c b w hl hmc hr hA hx hm hg h3
    · go_enter Try.func13, Try.ntmps13
      go_wp2_with (first
        | (go_at_call 24; refine (awake6_any _).mono ?_; rintro e w1 ⟨rfl, hb1⟩; have hR1 := (Blk.new w 37 #[.int .i64 mn, .int .i64 mx, .int .i64 wd, .int .u64 mask, .int .u64 want]).below hb1; have hB1 := ((Below.refl w.heap.size w).alloc (Nat.le_refl _) (.cells #[.int .i64 mn, .int .i64 mx, .int .i64 wd, .int .u64 mask, .int .u64 want] 37)).trans (hb1.mono (by simp)); obtain ⟨q0, q1, q2, q3, q4⟩ := rule5 hR1)
        | (go_at_call 25; refine (Good_any mn mx wd mask want _).mono ?_; rintro e w2 ⟨rfl, hb2⟩; rw [hg]))
      go_ret
      exact ⟨rfl, hB1.trans (hb2.mono hB1.size)⟩
  · have hg' : goodS mn mx wd = false := by simpa using hg
    go_enter Try.func13, Try.ntmps13
    go_wp2_with (first
      | (go_at_call 24; refine (awake6_any _).mono ?_; rintro e w1 ⟨rfl, hb1⟩; have hR1 := (Blk.new w 37 #[.int .i64 mn, .int .i64 mx, .int .i64 wd, .int .u64 mask, .int .u64 want]).below hb1; have hB1 := ((Below.refl w.heap.size w).alloc (Nat.le_refl _) (.cells #[.int .i64 mn, .int .i64 mx, .int .i64 wd, .int .u64 mask, .int .u64 want] 37)).trans (hb1.mono (by simp)); obtain ⟨q0, q1, q2, q3, q4⟩ := rule5 hR1)
      | (go_at_call 25; refine (Good_any mn mx wd mask want _).mono ?_; rintro e w2 ⟨rfl, hb2⟩; rw [hg']))
    go_ret
    exact ⟨rfl, hB1.trans (hb2.mono hB1.size)⟩
end Go.Proofs.Ytibckdnfgopghaa
