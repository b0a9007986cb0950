/- Walks of package cut: Good, Plain, and their twins in the reference. -/
import Derived.Test.YtibckdnfgopghaaRollG
import Derived.Test.YtibckdnfgopghaaCutP
namespace Go.Proofs.Ytibckdnfgopghaa
open Go.RowKit

/-- May a rule be? -/
def goodS (mn mx wd : Int) : Bool := decide (1 ≤ wd ∧ wd ≤ 64 ∧ wd ≤ mn ∧ mn ≤ mx ∧ mx ≤ 65536)
abbrev rv (mn mx wd : Int) (mask want : Nat) : Value := .agg #[.int .i64 mn, .int .i64 mx, .int .i64 wd, .int .u64 mask, .int .u64 want]

theorem Good_any (mn mx wd : Int) (mask want : Nat) (w : World) :
    Calls Try.prog 25 #[.agg #[.int .i64 mn, .int .i64 mx, .int .i64 wd, .int .u64 mask, .int .u64 want]] w fun e w' => e = .returned (.bool (goodS mn mx wd)) ∧ Below w.heap.size w w' := by
  by_cases h1 : 1 ≤ wd
  · by_cases h2 : wd ≤ 64
    · by_cases h3 : wd ≤ mn
      · by_cases h4 : mn ≤ mx
        · have e : goodS mn mx wd = decide (mx ≤ 65536) := by unfold goodS; simp [h1, h2, h3, h4]
          rw [e]
          go_enter Try.func25, Try.ntmps25
          go_wp2
          go_ret
          exact ⟨rfl, (Below.refl _ _).alloc (Nat.le_refl _) _⟩
        · have e : goodS mn mx wd = false := by unfold goodS; simp [h1, h2, h3, h4]
          rw [e]
          go_enter Try.func25, Try.ntmps25
          go_wp2
          go_ret
          exact ⟨rfl, (Below.refl _ _).alloc (Nat.le_refl _) _⟩
      · have e : goodS mn mx wd = false := by unfold goodS; simp [h1, h2, h3]
        rw [e]
        go_enter Try.func25, Try.ntmps25
        go_wp2
        go_ret
        exact ⟨rfl, (Below.refl _ _).alloc (Nat.le_refl _) _⟩
    · have e : goodS mn mx wd = false := by unfold goodS; simp [h1, h2]
      rw [e]
      go_enter Try.func25, Try.ntmps25
      go_wp2
      go_ret
      exact ⟨rfl, (Below.refl _ _).alloc (Nat.le_refl _) _⟩
  · have e : goodS mn mx wd = false := by unfold goodS; simp [h1]
    rw [e]
    go_enter Try.func25, Try.ntmps25
    go_wp2
    go_ret
    exact ⟨rfl, (Below.refl _ _).alloc (Nat.le_refl _) _⟩

theorem good_nat {mn mx wd : Nat} (hg : goodS mn mx wd = true) : 1 ≤ wd ∧ wd ≤ 64 ∧ wd ≤ mn ∧ mn ≤ mx ∧ mx ≤ 65536 := by unfold goodS at hg; simp at hg; omega
theorem and_u64 (a b : Nat) (ha : a < 18446744073709551616) (hb : b < 18446744073709551616) : bits .and .u64 (a : Int) (b : Int) = ((a &&& b : Nat) : Int) := bits_and_u64_nat a b ha hb

theorem Next_lo (mn mx wd : Nat) (mask want : Nat) (A : Option Addr) (n cap : Nat) (b : List Nat) (w : World) (hg : goodS mn mx wd = true) (hl : b.length = n) (hn : n ≤ maxLen) (h1 : min mx n < mn) :
    Calls Try.prog 28 #[.agg #[.int .i64 mn, .int .i64 mx, .int .i64 wd, .int .u64 mask, .int .u64 want], .slice A n cap] w fun e w' => e = .returned (.int .i64 (nextS mn mx wd mask want b : Nat)) ∧ Below w.heap.size w w' := by
  have hn' := hn; unfold maxLen at hn'
  have e : nextS mn mx wd mask want b = n := by unfold nextS; rw [hl, if_pos h1]; have := good_nat hg; omega
  rw [e]
  obtain ⟨g1, g2, g3, g4, g5⟩ := good_nat hg
  go_enter Try.func28, Try.ntmps28
  go_wp2_with (go_at_call 25; refine (Good_any _ _ _ _ _ _).mono ?_; rintro e w1 ⟨rfl, hb⟩; rw [hg]; have hR := (Blk.new w 37 #[.int .i64 mn, .int .i64 mx, .int .i64 wd, .int .u64 mask, .int .u64 want]).below hb; have hB := ((Below.refl w.heap.size w).alloc (Nat.le_refl _) (.cells #[.int .i64 mn, .int .i64 mx, .int .i64 wd, .int .u64 mask, .int .u64 want] 37)).trans (hb.mono (by simp)); have r0 : w1.cell? ⟨w.heap.size, 0, none⟩ = some (.int .i64 mn) := hR.cell 0; have r1 : w1.cell? ⟨w.heap.size, 1, none⟩ = some (.int .i64 mx) := hR.cell 1)
  go_ret
  exact ⟨rfl, hB⟩

theorem Next_hi (mn mx wd : Nat) (mask want : Nat) (A : Option Addr) (n cap : Nat) (b : List Nat) (w : World) (hg : goodS mn mx wd = true) (hl : b.length = n) (hr : Rd w A (b.map bv)) (hA : A = none → n = 0) (hx : ∀ x ∈ b, x < 256) (hn : n ≤ maxLen)
    (hm : mask < 18446744073709551616) (h1 : ¬ min mx n < mn) :
    Calls Try.prog 28 #[.agg #[.int .i64 mn, .int .i64 mx, .int .i64 wd, .int .u64 mask, .int .u64 want], .slice A n cap] w fun e w' => e = .returned (.int .i64 (nextS mn mx wd mask want b : Nat)) ∧ Below w.heap.size w w' := by
  unfold maxLen at hn
  have HN : Hid (nextS mn mx wd mask want b = scanS wd mask want b (min mx n + 1 - mn) (mn - 1)) := by unfold Hid nextS; rw [hl, if_neg h1]
  generalize nextS mn mx wd mask want b = N at *
  have ⟨g1, g2, g3, g4, g5⟩ := good_nat hg
  rcases Nat.lt_or_ge n mx with hnm | hnm <;> (
    go_enter Try.func28, Try.ntmps28
    go_wp2_with fail
    refine (Good_any _ _ _ _ _ _).mono ?_
    rintro e w1 ⟨rfl, hb⟩
    rw [hg]
    have hR := (Blk.new w 37 #[.int .i64 mn, .int .i64 mx, .int .i64 wd, .int .u64 mask, .int .u64 want]).below hb
    have hB := ((Below.refl w.heap.size w).alloc (Nat.le_refl _) (.cells #[.int .i64 mn, .int .i64 mx, .int .i64 wd, .int .u64 mask, .int .u64 want] 37)).trans (hb.mono (by simp))
    clear hb
    have r0 : w1.cell? ⟨w.heap.size, 0, none⟩ = some (.int .i64 mn) := hR.cell 0
    have r1 : w1.cell? ⟨w.heap.size, 1, none⟩ = some (.int .i64 mx) := hR.cell 1
    have r2 : w1.cell? ⟨w.heap.size, 2, none⟩ = some (.int .i64 wd) := hR.cell 2
    have hRlt := hR.lt
    go_wp2_with fail
    refine (New_any wd _).mono ?_
    rintro e w2 ⟨g, rfl, rfl, hW, hB2⟩
    have hH : holdS (wd : Int) = wd := by unfold holdS; rw [if_neg (by omega), if_neg (by omega)]; omega
    rw [hH] at hW
    have V := Win.new hW (Nat.le_refl _)
    have q0 : w2.cell? ⟨w.heap.size, 0, none⟩ = some (.int .i64 mn) := (hB2.cell hRlt).trans r0
    have q2 : w2.cell? ⟨w.heap.size, 2, none⟩ = some (.int .i64 wd) := (hB2.cell hRlt).trans r2
    clear r0 r1 r2 hW
    go_wp2_with fail
    go_loopw [7] (fun i wr => ∃ (k : Nat) (F : List Nat), mn - wd ≤ k ∧ k ≤ min mx n ∧ i = .int .i64 k ∧ Win wr w1.heap.size F w1.heap.size wd (lastL wd (k - (mn - wd)) (b.drop (mn - wd))) (ofS (lastL wd (k - (mn - wd)) (b.drop (mn - wd)))) ∧ Below w1.heap.size w1 wr ∧ Hid (N = scanS wd mask want b (min mx n - max k (mn - 1)) (max k (mn - 1)))) (fun i _ => min mx n - (intOf i).toNat)
    case atStart =>
      refine ⟨mn - wd, [w1.heap.size], Nat.le_refl _, by omega, by go_num, ?_, hB2, ?_⟩
      · rw [Nat.sub_self, lastL_zero]; exact V
      · rw [show max (mn - wd) (mn - 1) = mn - 1 by omega, show min mx n - (mn - 1) = min mx n + 1 - mn by omega]; exact HN
    case round =>
      clear V q0 q2 HN hB2 w2
      obtain ⟨k, F, hk1, hk2, rfl, V, hB2, HN⟩ := hrel
      have hR2 := hR.keeps (Keeps.of_below (S := []) hB2) (by simp)
      have q0 : wr.cell? ⟨w.heap.size, 0, none⟩ = some (.int .i64 mn) := hR2.cell 0
      by_cases hlt : k < min mx n
      · have hkn : k < b.length := by omega
        have hkd : k - (mn - wd) < (b.drop (mn - wd)).length := by rw [List.length_drop]; omega
        have hz : (b.drop (mn - wd))[k - (mn - wd)] = b[k] := by rw [List.getElem_drop]; congr 1; omega
        have eL := stepL_last wd (k - (mn - wd)) (b.drop (mn - wd)) hkd g1
        have eS := stepS_last wd (k - (mn - wd)) (b.drop (mn - wd)) hkd g1
        rw [hz, show k - (mn - wd) + 1 = k + 1 - (mn - wd) by omega] at eL eS
        have hlen := lastL_len wd (k - (mn - wd)) (b.drop (mn - wd)) (by omega)
        have hlx : ∀ x ∈ lastL wd (k - (mn - wd)) (b.drop (mn - wd)), x < 256 := fun x h => hx x (List.mem_of_mem_drop (List.mem_of_mem_take (List.mem_of_mem_drop h)))
        have hB3 := hB.trans (hB2.mono hB.size)
        obtain ⟨ad, rfl, hc⟩ := (hr.below hB3).at_ (j := k) (by simpa using hkn)
        have hcell : wr.cell? (ad.add k) = some (.int .u8 (b[k] : Nat)) := by rw [hc]; simp [bv]
        have hb : b[k] < 256 := hx _ (List.getElem_mem _)
        have hsx := ofS_lt (lastL wd (k - (mn - wd)) (b.drop (mn - wd)))
        have hlw : (lastL wd (k - (mn - wd)) (b.drop (mn - wd))).length ≤ wd := by omega
        clear hc hz hlen
        generalize lastL wd (k - (mn - wd)) (b.drop (mn - wd)) = L at *
        generalize b[k] = z at *
        generalize ofS L = s0 at *
        have hT := ofS_lt (lastL wd (k + 1 - (mn - wd)) (b.drop (mn - wd)))
        go_wp2_with fail
        refine (V.add (c := z) hlw g1 g2 hsx hb hlx hB2.size).mono ?_
        rintro e w3 ⟨rfl, F', V', -, -, hB4⟩
        rw [eS]
        rw [eL, eS] at V'
        have hB5 := hB2.trans hB4
        have hR3 := hR.keeps (Keeps.of_below (S := []) hB5) (by simp)
        have q0 : w3.cell? ⟨w.heap.size, 0, none⟩ = some (.int .i64 mn) := hR3.cell 0
        have q3 : w3.cell? ⟨w.heap.size, 3, none⟩ = some (.int .u64 mask) := hR3.cell 3
        have q4 : w3.cell? ⟨w.heap.size, 4, none⟩ = some (.int .u64 want) := hR3.cell 4
        clear eL eS hB4 hR3 V hsx hcell hb hlx hlw hR2
        by_cases hmin : mn ≤ k + 1
        · rw [window_eq wd (mn - wd) (k + 1) b (by omega)] at V' hT ⊢
          have HA := and_u64 (ofS ((b.take (k + 1)).drop (k + 1 - wd))) mask (by omega) hm
          by_cases hf : fitS mask want ((b.take (k + 1)).drop (k + 1 - wd)) = true
          · have hN : N = k + 1 := by
              rw [HN.out, show max k (mn - 1) = k by omega]; exact scan_hit wd mask want b (min mx n) k hlt hf
            have hq : (bits .and .u64 (ofS ((b.take (k + 1)).drop (k + 1 - wd)) : Nat) (mask : Int) == (want : Int)) = true := by
              rw [HA]; unfold fitS at hf; simp only [decide_eq_true_eq] at hf; rw [hf]; simp
            generalize ofS ((b.take (k + 1)).drop (k + 1 - wd)) = T at *
            clear HA
            go_wp2_with fail
            go_ret
            exact ⟨ret_int (by omega), hB.trans (hB5.mono hB.size)⟩
          · have hf' : fitS mask want ((b.take (k + 1)).drop (k + 1 - wd)) = false := by simpa using hf
            have hN : N = scanS wd mask want b (min mx n - (k + 1)) (k + 1) := by
              rw [HN.out, show max k (mn - 1) = k by omega]; exact scan_miss wd mask want b (min mx n) k hlt hf'
            have HN2 := Lib.hid hN
            have hq : (bits .and .u64 (ofS ((b.take (k + 1)).drop (k + 1 - wd)) : Nat) (mask : Int) == (want : Int)) = false := by
              rw [HA]; unfold fitS at hf'; simp only [decide_eq_false_iff_not] at hf'; simp only [beq_eq_false_iff_ne, ne_eq]; omega
            clear HA hN hf
            generalize HL : (b.take (k + 1)).drop (k + 1 - wd) = L2 at *
            generalize HT2 : ofS L2 = T at *
            go_wp2_with fail
            go_roundw
            case rel =>
              refine ⟨k + 1, F', by omega, by omega, by go_num, ?_, hB5, ?_⟩
              · rw [window_eq wd (mn - wd) (k + 1) b (by omega), HL, HT2]; exact V'
              · rw [show max (k + 1) (mn - 1) = k + 1 by omega]; exact HN2
            case measure => simp [intOf]; omega
        · generalize HL : lastL wd (k + 1 - (mn - wd)) (b.drop (mn - wd)) = L2 at *
          generalize HT2 : ofS L2 = T at *
          go_wp2_with fail
          go_roundw
          case rel =>
            refine ⟨k + 1, F', by omega, by omega, by go_num, ?_, hB5, ?_⟩
            · rw [HL, HT2]; exact V'
            · rw [show max (k + 1) (mn - 1) = max k (mn - 1) by omega]; exact HN
          case measure => simp [intOf]; omega
      · obtain rfl : k = min mx n := by omega
        have hN : N = min mx n := by
          rw [HN.out, show max (min mx n) (mn - 1) = min mx n by omega, Nat.sub_self]; rfl
        clear V hR2
        go_wp2
        go_ret
        exact ⟨ret_int (by omega), hB.trans (hB2.mono hB.size)⟩)

theorem Next_go (mn mx wd : Nat) (mask want : Nat) (A : Option Addr) (n cap : Nat) (b : List Nat) (w : World) (hg : goodS mn mx wd = true) (hl : b.length = n) (hr : Rd w A (b.map bv)) (hA : A = none → n = 0) (hx : ∀ x ∈ b, x < 256) (hn : n ≤ maxLen)
    (hm : mask < 18446744073709551616) :
    Calls Try.prog 28 #[.agg #[.int .i64 mn, .int .i64 mx, .int .i64 wd, .int .u64 mask, .int .u64 want], .slice A n cap] w fun e w' => e = .returned (.int .i64 (nextS mn mx wd mask want b : Nat)) ∧ Below w.heap.size w w' := by
  by_cases h1 : min mx n < mn
  · exact Next_lo mn mx wd mask want A n cap b w hg hl hn h1
  · exact Next_hi mn mx wd mask want A n cap b w hg hl hr hA hx hn hm h1

/-- Where the first piece ends, of any rule. -/
def nextR (mn mx wd : Int) (mask want : Nat) (b : List Nat) : Nat := if goodS mn mx wd = true then nextS mn.toNat mx.toNat wd.toNat mask want b else 0
theorem good_cast {mn mx wd : Int} (hg : goodS mn mx wd = true) : ∃ a b c : Nat, mn = a ∧ mx = b ∧ wd = c := by
  unfold goodS at hg
  simp only [decide_eq_true_eq] at hg
  exact ⟨mn.toNat, mx.toNat, wd.toNat, by omega, by omega, by omega⟩

theorem Next_any (mn mx wd : Int) (mask want : Nat) (A : Option Addr) (n cap : Nat) (b : List Nat) (w : World) (hl : b.length = n) (hr : Rd w A (b.map bv)) (hA : A = none → n = 0) (hx : ∀ x ∈ b, x < 256) (hn : n ≤ maxLen)
    (hm : mask < 18446744073709551616) :
    Calls Try.prog 28 #[.agg #[.int .i64 mn, .int .i64 mx, .int .i64 wd, .int .u64 mask, .int .u64 want], .slice A n cap] w fun e w' => e = .returned (.int .i64 (nextR mn mx wd mask want b : Nat)) ∧ Below w.heap.size w w' := by
  by_cases hg : goodS mn mx wd = true
  · obtain ⟨mn, mx, wd, rfl, rfl, rfl⟩ := good_cast hg
    unfold nextR
    rw [if_pos hg]
    exact Next_go mn mx wd mask want A n cap b w hg hl hr hA hx hn hm
  · unfold nextR
    rw [if_neg hg]
    have hg' : goodS mn mx wd = false := by simpa using hg
    unfold maxLen at hn
    go_enter Try.func28, Try.ntmps28
    go_wp2_with (go_at_call 25; refine (Good_any _ _ _ _ _ _).mono ?_; rintro e w1 ⟨rfl, hb⟩; rw [hg'])
    go_ret
    exact ⟨rfl, ((Below.refl _ _).alloc (Nat.le_refl _) (.cells #[.int .i64 mn, .int .i64 mx, .int .i64 wd, .int .u64 mask, .int .u64 want] 37)).trans (hb.mono (by simp))⟩
end Go.Proofs.Ytibckdnfgopghaa
