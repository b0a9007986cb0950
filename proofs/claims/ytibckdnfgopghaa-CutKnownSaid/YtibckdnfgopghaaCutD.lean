/- Walks of the reference's cutting, and of layer 6's helpers. -/
import Derived.Test.YtibckdnfgopghaaCutC
import Derived.Handy
namespace Go.Proofs.Ytibckdnfgopghaa
open Go.RowKit

theorem refGood_any (mn mx wd : Int) (mask want : Nat) (w : World) :
    Calls Try.prog 32 #[.agg #[.int .i64 mn, .int .i64 mx, .int .i64 wd, .int .u64 mask, .int .u64 want]] w fun e w' => e = .returned (.bool (goodS mn mx wd)) ∧ Below w.heap.size w w' := by
  by_cases h1 : 1 ≤ wd
  · by_cases h2 : wd ≤ 64
    · by_cases h3 : wd ≤ mn
      · by_cases h4 : mn ≤ mx
        · have e : goodS mn mx wd = decide (mx ≤ 65536) := by unfold goodS; simp [h1, h2, h3, h4]
          rw [e]
          go_enter Try.func32, Try.ntmps32
          go_wp2
          go_ret
          exact ⟨rfl, (Below.refl _ _).alloc (Nat.le_refl _) _⟩
        · have e : goodS mn mx wd = false := by unfold goodS; simp [h1, h2, h3, h4]
          rw [e]
          go_enter Try.func32, Try.ntmps32
          go_wp2
          go_ret
          exact ⟨rfl, (Below.refl _ _).alloc (Nat.le_refl _) _⟩
      · have e : goodS mn mx wd = false := by unfold goodS; simp [h1, h2, h3]
        rw [e]
        go_enter Try.func32, Try.ntmps32
        go_wp2
        go_ret
        exact ⟨rfl, (Below.refl _ _).alloc (Nat.le_refl _) _⟩
    · have e : goodS mn mx wd = false := by unfold goodS; simp [h1, h2]
      rw [e]
      go_enter Try.func32, Try.ntmps32
      go_wp2
      go_ret
      exact ⟨rfl, (Below.refl _ _).alloc (Nat.le_refl _) _⟩
  · have e : goodS mn mx wd = false := by unfold goodS; simp [h1]
    rw [e]
    go_enter Try.func32, Try.ntmps32
    go_wp2
    go_ret
    exact ⟨rfl, (Below.refl _ _).alloc (Nat.le_refl _) _⟩

theorem own_any (mn mx wd : Int) (mask want : Nat) (w : World) :
    Calls Try.prog 30 #[.agg #[.int .i64 mn, .int .i64 mx, .int .i64 wd, .int .u64 mask, .int .u64 want]] w fun e w' => e = .returned (.agg #[.int .i64 mn, .int .i64 mx, .int .i64 wd, .int .u64 mask, .int .u64 want]) ∧ Below w.heap.size w w' := by
  go_enter Try.func30, Try.ntmps30
  go_wp2
  go_returns
  exact ⟨rfl, ((Below.refl _ _).alloc (Nat.le_refl _) _).alloc (by simp) _⟩

theorem cutPlain_any (w : World) :
    Calls Try.prog 34 #[] w fun e w' => e = .returned (.agg #[.int .i64 16, .int .i64 128, .int .i64 8, .int .u64 31, .int .u64 7]) ∧ Below w.heap.size w w' := by
  go_enter Try.func34, Try.ntmps34
  go_wp2
  go_returns
  exact ⟨rfl, (Below.refl _ _).alloc (Nat.le_refl _) _⟩
theorem refPlain_any (w : World) :
    Calls Try.prog 40 #[] w fun e w' => e = .returned (.agg #[.int .i64 16, .int .i64 128, .int .i64 8, .int .u64 31, .int .u64 7]) ∧ Below w.heap.size w w' := by
  go_enter Try.func40, Try.ntmps40
  go_wp2
  go_returns
  exact ⟨rfl, (Below.refl _ _).alloc (Nat.le_refl _) _⟩

/-- Two slices of ints: alike? -/
theorem ints_any (A B : Option Addr) (n c m d : Nat) (l s : List Nat) (w : World) (hl : l.length = n) (hk : s.length = m) (hA : Rd w A (l.map iv)) (hB : Rd w B (s.map iv)) (hn : n ≤ maxLen) (hm : m ≤ maxLen) :
    Calls Try.prog 29 #[.slice A n c, .slice B m d] w fun e w' => e = .returned (.bool (decide (l = s))) ∧ ∃ q, w' = w.drewN q := by
  unfold maxLen at hn hm
  by_cases hne : n = m
  · subst hne
    generalize hR : decide (l = s) = R at *
    go_enter Try.func29, Try.ntmps29
    go_wp2_with fail
    go_loopw [5] (fun i wr => ∃ k q : Nat, k ≤ n ∧ i = .int .i64 k ∧ l.take k = s.take k ∧ Hid (wr = w.drewN q)) (fun i _ => n - (intOf i).toNat)
    case atStart => exact ⟨0, 0, Nat.zero_le _, rfl, rfl, rfl⟩
    case round =>
      obtain ⟨k, q, hk, rfl, ht, hwr⟩ := hrel
      by_cases hlt : k < n
      · obtain ⟨ad, rfl, hc⟩ := hA.at_ (j := k) (by simpa using (by omega : k < l.length))
        obtain ⟨bd, rfl, hd⟩ := hB.at_ (j := k) (by simpa using (by omega : k < s.length))
        have hc1 : wr.cell? (ad.add k) = some (.int .i64 (l[k]'(by omega) : Nat)) := by rw [hwr.out, World.cell?_drewN, hc]; simp [iv]
        have hd1 : wr.cell? (bd.add k) = some (.int .i64 (s[k]'(by omega) : Nat)) := by rw [hwr.out, World.cell?_drewN, hd]; simp [iv]
        have hl1 : k < l.length := by omega
        have hs1 : k < s.length := by omega
        have e1 := List.take_succ_eq_append_getElem hl1
        have e2 := List.take_succ_eq_append_getElem hs1
        clear hc hd
        generalize hx : l[k]'(by omega) = x at *
        generalize hy : s[k]'(by omega) = y at *
        by_cases hxy : x = y
        · have hq : (!((x : Int) == (y : Int))) = false := by simp; omega
          go_wp2_with fail
          go_quiet (fail)
          go_wp2_with fail
          go_roundw
          case rel => exact ⟨k + 1, _, by omega, by go_num, by rw [e1, e2, ht, hxy], by unfold Hid; rw [hwr.out, World.drewN_drewN]⟩
          case measure => simp [intOf]; omega
        · have hq : (!((x : Int) == (y : Int))) = true := by simp; omega
          have hRf : R = false := by
            rw [← hR]
            simp only [decide_eq_false_iff_not]
            rintro rfl
            exact hxy (hx.symm.trans hy)
          go_wp2_with fail
          go_quiet (fail)
          go_wp2_with fail
          go_ret
          exact ⟨by rw [hRf]; rfl, _, by rw [hwr.out, World.drewN_drewN]⟩
      · obtain rfl : k = n := by omega
        have hRt : R = true := by
          rw [← hR]
          simp only [decide_eq_true_eq]
          rw [List.take_of_length_le (by omega), List.take_of_length_le (by omega)] at ht
          exact ht
        go_wp2_with fail
        go_ret
        exact ⟨by rw [hRt]; rfl, _, hwr.out⟩
  · have e : decide (l = s) = false := by
      have : l ≠ s := by rintro rfl; omega
      simp [this]
    rw [e]
    have hneq : ((n : Int) == (m : Int)) = false := by simp; omega
    go_enter Try.func29, Try.ntmps29
    go_wp2
    go_ret
    exact ⟨rfl, 0, rfl⟩

theorem refNext_go (mn mx wd : Nat) (mask want : Nat) (A : Option Addr) (n cap : Nat) (b : List Nat) (w : World) (hg : goodS mn mx wd = true) (hl : b.length = n) (hmc : n ≤ cap) (hr : Rd w A (b.map bv)) (hA : A = none → n = 0) (hx : ∀ x ∈ b, x < 256) (hn : n ≤ maxLen)
    (hm : mask < 18446744073709551616) :
    Calls Try.prog 33 #[.agg #[.int .i64 mn, .int .i64 mx, .int .i64 wd, .int .u64 mask, .int .u64 want], .slice A n cap] w fun e w' => e = .returned (.int .i64 (nextS mn mx wd mask want b : Nat)) ∧ Below w.heap.size w w' := by
  unfold maxLen at hn
  have ⟨g1, g2, g3, g4, g5⟩ := good_nat hg
  have HN : Hid (nextS mn mx wd mask want b = if min mx n < mn then min mx n else scanS wd mask want b (min mx n + 1 - mn) (mn - 1)) := by unfold Hid nextS; rw [hl]
  generalize nextS mn mx wd mask want b = N at *
  go_enter Try.func33, Try.ntmps33
  go_wp2_with fail
  refine (refGood_any _ _ _ _ _ _).mono ?_
  rintro e w1 ⟨rfl, hb⟩
  rw [hg]
  have hR := (Blk.new w 46 #[.int .i64 mn, .int .i64 mx, .int .i64 wd, .int .u64 mask, .int .u64 want]).below hb
  have hB := ((Below.refl w.heap.size w).alloc (Nat.le_refl _) (.cells #[.int .i64 mn, .int .i64 mx, .int .i64 wd, .int .u64 mask, .int .u64 want] 46)).trans (hb.mono (by simp))
  clear hb
  have r0 : w1.cell? ⟨w.heap.size, 0, none⟩ = some (.int .i64 mn) := hR.cell 0
  go_wp2_with fail
  go_loopw [5] (fun i wr => ∃ k q : Nat, mn ≤ k ∧ i = .int .i64 k ∧ Hid (min mx n < mn ∧ k = mn ∧ N = min mx n ∨ mn ≤ min mx n ∧ k ≤ min mx n + 1 ∧ N = scanS wd mask want b (min mx n - (k - 1)) (k - 1)) ∧ Hid (wr = w1.drewN q)) (fun i _ => min mx n + 1 - (intOf i).toNat)
  case atStart =>
    refine ⟨mn, 0, Nat.le_refl _, rfl, ?_, rfl⟩
    have := HN.out
    unfold Hid
    by_cases h : min mx n < mn
    · rw [if_pos h] at this; exact .inl ⟨h, rfl, this⟩
    · rw [if_neg h] at this
      refine .inr ⟨by omega, by omega, ?_⟩
      rw [show min mx n - (mn - 1) = min mx n + 1 - mn by omega]; exact this
  case round =>
    clear HN r0
    obtain ⟨k, q, hk1, rfl, HN, hwr⟩ := hrel
    have hR2 : Blk wr w.heap.size 46 #[.int .i64 mn, .int .i64 mx, .int .i64 wd, .int .u64 mask, .int .u64 want] := by rw [hwr.out]; exact hR.drewN q
    have q1 : wr.cell? ⟨w.heap.size, 1, none⟩ = some (.int .i64 mx) := hR2.cell 1
    by_cases hlt : k ≤ min mx n
    · have q2 : wr.cell? ⟨w.heap.size, 2, none⟩ = some (.int .i64 wd) := hR2.cell 2
      have q3 : wr.cell? ⟨w.heap.size, 3, none⟩ = some (.int .u64 mask) := hR2.cell 3
      have q4 : wr.cell? ⟨w.heap.size, 4, none⟩ = some (.int .u64 want) := hR2.cell 4
      have hkmx : k ≤ mx := by omega
      have hkn : k ≤ n := by omega
      obtain ⟨ad, rfl⟩ : ∃ ad, A = some ad := by
        cases A with
        | none => exact absurd (hA rfl) (by omega)
        | some ad => exact ⟨ad, rfl⟩
      have hseg : Rd wr (some (ad.add (k - wd))) (((b.take k).drop (k - wd)).map bv) := by
        have := (((hr.below hB).take k).dropAt (k - wd))
        rw [← List.map_take, ← List.map_drop] at this
        rw [hwr.out]
        exact this
      have hln : ((b.take k).drop (k - wd)).length = k - (k - wd) := by rw [List.length_drop, List.length_take]; omega
      have hxs : ∀ x ∈ (b.take k).drop (k - wd), x < 256 := fun x h => hx x (List.mem_of_mem_take (List.mem_of_mem_drop h))
      have hT := ofS_lt ((b.take k).drop (k - wd))
      have hst : Hid (N = scanS wd mask want b (min mx n - (k - 1)) (k - 1)) := by unfold Hid; rcases HN.out with h | h; omega; exact h.2.2
      have hmm : mn ≤ min mx n := by omega
      have hcall := fun (q : Nat) => refRoll_any (some (ad.add (k - wd))) (k - (k - wd)) (cap - (k - wd)) _ (wr.drewN q) hln (hseg.drewN q) hxs (by simp only [maxLen]; omega)
      have HA := and_u64 (ofS ((b.take k).drop (k - wd))) mask (by omega) hm
      have hsub : IntKind.i64.wrap ((k : Int) - (wd : Int)) = ((k - wd : Nat) : Int) := by simp [IntKind.wrap, IntKind.bits, IntKind.signed]; omega
      clear hseg hxs hln HN
      by_cases hf : fitS mask want ((b.take k).drop (k - wd)) = true
      · have hN : N = k := by
          rw [hst.out]
          have := scan_hit wd mask want b (min mx n) (k - 1) (by omega) (by rw [show k - 1 + 1 = k by omega]; exact hf)
          omega
        have hq : (bits .and .u64 (ofS ((b.take k).drop (k - wd)) : Nat) (mask : Int) == (want : Int)) = true := by
          rw [HA]; unfold fitS at hf; simp only [decide_eq_true_eq] at hf; rw [hf]; simp
        generalize ofS ((b.take k).drop (k - wd)) = T at *
        clear HA hf
        go_wp2_with fail
        go_quiet ((go_at_call 17; exact Calls.quiet_of (hcall _)))
        go_wp2_with fail
        go_ret
        refine ⟨ret_int (by omega), hB.trans ?_⟩
        rw [hwr.out]
        exact ((((Keeps.refl [] w1).drewN _).drewN _).below).mono hB.size
      · have hf' : fitS mask want ((b.take k).drop (k - wd)) = false := by simpa using hf
        have hN : Hid (N = scanS wd mask want b (min mx n - k) k) := by
          unfold Hid
          rw [hst.out]
          have := scan_miss wd mask want b (min mx n) (k - 1) (by omega) (by rw [show k - 1 + 1 = k by omega]; exact hf')
          rw [this, show k - 1 + 1 = k by omega]
        have hq : (bits .and .u64 (ofS ((b.take k).drop (k - wd)) : Nat) (mask : Int) == (want : Int)) = false := by
          rw [HA]; unfold fitS at hf'; simp only [decide_eq_false_iff_not] at hf'; simp only [beq_eq_false_iff_ne, ne_eq]; omega
        generalize ofS ((b.take k).drop (k - wd)) = T at *
        clear HA hf hf'
        go_wp2_with fail
        go_quiet ((go_at_call 17; exact Calls.quiet_of (hcall _)))
        go_wp2_with fail
        go_roundw
        case rel => exact ⟨k + 1, _, by omega, by go_num, .inr ⟨hmm, by omega, hN.out⟩, by unfold Hid; rw [hwr.out, World.drewN_drewN]⟩
        case measure => simp [intOf]; omega
    · have hN : N = min mx n := by
        rcases HN.out with h | ⟨h1, h2, h3⟩
        · exact h.2.2
        · rw [h3, show k - 1 = min mx n by omega, Nat.sub_self]; rfl
      have hBf : Below w.heap.size w wr := by rw [hwr.out]; exact hB.trans (((Keeps.refl [] w1).drewN _).below.mono hB.size)
      by_cases hkm : k ≤ mx
      · have hkn : ¬ k ≤ n := by omega
        have hmn : ¬ mx < n := by omega
        go_wp2_with fail
        go_ret
        exact ⟨ret_int (by omega), hBf⟩
      · by_cases hmn : mx < n
        · go_wp2_with fail
          go_ret
          exact ⟨ret_int (by omega), hBf⟩
        · go_wp2_with fail
          go_ret
          exact ⟨ret_int (by omega), hBf⟩
end Go.Proofs.Ytibckdnfgopghaa
