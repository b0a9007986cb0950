/- Layer 6: the walk of CutSays. -/
import Derived.Test.YtibckdnfgopghaaCutI
namespace Go.Proofs.Ytibckdnfgopghaa
open Go.RowKit

set_option maxHeartbeats 1600000 in
set_option maxRecDepth 100000 in
theorem lawCutSays_go (mn mx wd : Int) (mask want : Nat) (A : Option Addr) (n c : Nat) (b : List Nat) (w : World) (hl : b.length = n) (hmc : n ≤ c) (hr : Rd w A (b.map bv)) (hA : A = none → n = 0) (hx : ∀ x ∈ b, x < 256) (h3 : n ≤ 400)
    (hm : mask < 18446744073709551616) :
    Calls Try.prog 9 #[.agg #[.int .i64 mn, .int .i64 mx, .int .i64 wd, .int .u64 mask, .int .u64 want], .slice A n c] w fun e w' => e = .returned (.bool true) ∧ Below w.heap.size w w' := by
  have hbd := endsR_bounds mn mx wd mask want b
  have hpa := fun w hr => Parts_any mn mx wd mask want A n c b w hl hmc hr hA hx (by omega) hm
  have hen := fun w hr => Ends_any mn mx wd mask want A n c b w hl hmc hr hA hx (by omega) hm
  have hre := fun w hr => refEnds_any mn mx wd mask want A n c b w hl hmc hr hA hx (by omega) hm
  have hne := fun w hr => Next_any mn mx wd mask want A n c b w hl hr hA hx (by simp only [maxLen]; omega) hm
  have hrn := fun w hr => refNext_any mn mx wd mask want A n c b w hl hmc hr hA hx (by simp only [maxLen]; omega) hm
  generalize hEE : endsR mn mx wd mask want b = E at *
  generalize nextR mn mx wd mask want b = N at *
  have hix := ends_index hbd
  go_enter Try.func9, Try.ntmps9
  go_wp2_with fail
  refine (awake6_any _).mono ?_
  rintro e w1 ⟨rfl, hb1⟩
  have hR1 := (Blk.new w 37 #[.int .i64 mn, .int .i64 mx, .int .i64 wd, .int .u64 mask, .int .u64 want]).below hb1
  have hB1 := ((Below.refl w.heap.size w).alloc (Nat.le_refl _) (.cells #[.int .i64 mn, .int .i64 mx, .int .i64 wd, .int .u64 mask, .int .u64 want] 37)).trans (hb1.mono (by simp))
  clear hb1
  obtain ⟨q0, q1, q2, q3, q4⟩ := rule5 hR1
  go_wp2_with fail
  refine (own_any mn mx wd mask want _).mono ?_
  rintro e w2 ⟨rfl, hb2⟩
  have hB2 := hB1.trans (hb2.mono hB1.size)
  replace hR1 := hR1.below hb2
  clear q0 q1 q2 q3 q4
  obtain ⟨q0, q1, q2, q3, q4⟩ := rule5 hR1
  go_wp2_with fail
  refine (hre _ ((hr.below hB2).alloc _)).mono ?_
  rintro e w3 ⟨v, Se, rfl, hE, hSe, hb3⟩
  obtain ⟨eA, eC, rfl, he1, he2, heR, heB, heN⟩ := hE.form
  have hR2 := (Blk.new w2 46 #[.int .i64 mn, .int .i64 mx, .int .i64 wd, .int .u64 mask, .int .u64 want]).below hb3
  have hB3 := hB2.trans (((Below.refl w2.heap.size w2).alloc (Nat.le_refl _) (.cells #[.int .i64 mn, .int .i64 mx, .int .i64 wd, .int .u64 mask, .int .u64 want] 46)).trans (hb3.mono (by simp)) |>.mono hB2.size)
  replace hR1 := (hR1.alloc (.cells #[.int .i64 mn, .int .i64 mx, .int .i64 wd, .int .u64 mask, .int .u64 want] 46)).below hb3
  clear q0 q1 q2 q3 q4 hE
  obtain ⟨q0, q1, q2, q3, q4⟩ := rule5 hR1
  obtain ⟨s0, s1, s2, s3, s4⟩ := rule5 hR2
  go_wp2_with fail
  refine (hpa w3 (hr.below hB3)).mono ?_
  rintro e w4 ⟨v, Sp, vs, rfl, hsp, hP, hSp, hb4⟩
  obtain ⟨pA, pC, rfl, hp1, hp2, hpR, hpB, hpN⟩ := hsp.form
  have hB4 := hB3.trans (hb4.mono hB3.size)
  replace hR1 := hR1.below hb4
  replace hR2 := hR2.below hb4
  replace heR := heR.below hb4
  clear q0 q1 q2 q3 q4 s0 s1 s2 s3 s4 hsp
  obtain ⟨q0, q1, q2, q3, q4⟩ := rule5 hR1
  obtain ⟨s0, s1, s2, s3, s4⟩ := rule5 hR2
  go_wp2_with fail
  have hSk4 := And.intro (rule5 hR1) (rule5 hR2)
  clear q0 q1 q2 q3 q4 s0 s1 s2 s3 s4
  go_region_held3 (fun w' => (w'.cell? ⟨w.heap.size, 0, none⟩ = some (.int .i64 mn) ∧ w'.cell? ⟨w.heap.size, 1, none⟩ = some (.int .i64 mx) ∧ w'.cell? ⟨w.heap.size, 2, none⟩ = some (.int .i64 wd) ∧ w'.cell? ⟨w.heap.size, 3, none⟩ = some (.int .u64 mask) ∧ w'.cell? ⟨w.heap.size, 4, none⟩ = some (.int .u64 want)) ∧ (w'.cell? ⟨w2.heap.size, 0, none⟩ = some (.int .i64 mn) ∧ w'.cell? ⟨w2.heap.size, 1, none⟩ = some (.int .i64 mx) ∧ w'.cell? ⟨w2.heap.size, 2, none⟩ = some (.int .i64 wd) ∧ w'.cell? ⟨w2.heap.size, 3, none⟩ = some (.int .u64 mask) ∧ w'.cell? ⟨w2.heap.size, 4, none⟩ = some (.int .u64 want))) (first | assumption | go_keep)
    (first
      | (go_at_call 25
         refine (Good_any mn mx wd mask want _).mono ?_
         rintro e w5 ⟨rfl, hb5⟩
         have hB5 := hB4.drew.trans (hb5.mono hB4.size)
         have hRa5 := hR1.drew.below hb5
         have hRb5 := hR2.drew.below hb5
         have hSk5 := And.intro (rule5 hRa5) (rule5 hRb5))
      | (go_at_call 32
         refine (refGood_any mn mx wd mask want _).mono ?_
         rintro e w6 ⟨rfl, hb6⟩
         have hB6 := hB5.trans (hb6.mono hB5.size)
         have hRa6 := hRa5.below hb6
         have hRb6 := hRb5.below hb6
         have hSk6 := And.intro (rule5 hRa6) (rule5 hRb6))
      | (go_at_call 26
         refine (hen _ (hr.below hB6)).mono ?_
         rintro e w7 ⟨v, Su, rfl, hu, hSu, hb7⟩
         obtain ⟨uA, uC, rfl, hu1, hu2, huR, huB, huN⟩ := hu.form
         have hB7 := hB6.trans (hb7.mono hB6.size)
         have hRa7 := hRa6.below hb7
         have hRb7 := hRb6.below hb7
         have hK7 : Below w4.heap.size w4 w7 := ((Keeps.refl [] w4).drew.below.trans (hb5.mono (Nat.le_refl _))).trans (hb6.mono hb5.size) |>.trans (hb7.mono (Nat.le_trans hb5.size hb6.size))
         have hSk7 := And.intro (rule5 hRa7) (rule5 hRb7))
      | (go_at_call 28
         refine (hne _ ((hr.below hB7).drewN q8)).mono ?_
         rintro e w9 ⟨rfl, hb9⟩
         have hk9 : Below w7.heap.size w7 w9 := (((Keeps.refl [] w7).drewN q8).below).trans (hb9.mono (Nat.le_refl _))
         have hB9 := hB7.trans (hk9.mono hB7.size)
         have hRa9 := hRa7.below hk9
         have hRb9 := hRb7.below hk9
         have hK9 := hK7.trans (hk9.mono hK7.size)
         have hSk9 := And.intro (rule5 hRa9) (rule5 hRb9))
      | (go_at_call 33
         refine (hrn _ (hr.below hB9)).mono ?_
         rintro e wa ⟨rfl, hba⟩
         have hBa := hB9.trans (hba.mono hB9.size)
         have hRa := hRa9.below hba
         have hRb := hRb9.below hba
         have hKa := hK9.trans (hba.mono hK9.size)
         have hSka := And.intro (rule5 hRa) (rule5 hRb))
      | (go_at_call 29
         refine (ints_any uA eA E.length uC E.length eC E E w7 rfl rfl huR (heR.below hK7) (by omega) (by omega)).mono ?_
         rintro e w8 ⟨rfl, q8, rfl⟩
         rw [decide_eq_true (rfl : E = E)]
         have hSk8 := And.intro (rule5 (hRa7.drewN q8)) (rule5 (hRb7.drewN q8))))
  have heF := heR.below hKa
  have hpF := hpR.below hKa
  have hBf := hBa
  have hPF : ∀ i, i < E.length → ∃ A' c', wa.cell? ((pA.getD ⟨0, 0, none⟩).add i) = some (.slice A' (pieceS b E i).length c') ∧ (pieceS b E i).length ≤ c' ∧ c' ≤ maxLen ∧ Rd wa A' ((pieceS b E i).map bv) ∧ (A' = none → (pieceS b E i).length = 0) := by
    intro i hi
    have hpk : (partsS b E)[i]? = some (pieceS b E i) := by unfold partsS; rw [List.getElem?_map, List.getElem?_range hi]; rfl
    obtain ⟨A', c', hv, h1, h2, h3, _, h5⟩ := hP.2 i _ hpk
    obtain ⟨ad, rfl, hc⟩ := hpF i _ hv
    exact ⟨A', c', hc, h1, h2, h3.below hKa, h5⟩
  clear hP hpR heR hKa hRa hRb hSka hRa9 hRb9 hSk9 hK9 hB9 hb9 hk9 hSk8 hRa7 hRb7 hSk7 hK7 hB7 hu huR huB huN hu1 hu2 hSu hb7 hRa6 hRb6 hSk6 hB6 hb6 hRa5 hRb5 hSk5 hB5 hb5 hR1 hR2 hB4 hb4 hSk4 hSp hSe hb3 hB3 hb2 hB2 hpF hba hBa
  go_wp2_with fail
  clear hrn hne hre hen hpa
  go_loopw [8, 9] (fun f j wr => ∃ k q : Nat, k ≤ E.length ∧ j = .int .i64 k ∧ f = .int .i64 ((0 :: E).getD k 0 : Nat) ∧ Hid (wr = wa.drewN q)) (fun _ j _ => E.length - (intOf j).toNat)
  case atStart => exact ⟨0, 0, Nat.zero_le _, rfl, rfl, rfl⟩
  case round =>
    obtain ⟨k, q, hk, rfl, rfl, hwr⟩ := hrel
    by_cases hlt : k < E.length
    · obtain ⟨b1, b2⟩ := hbd k hlt
      obtain ⟨A', c', hpc, hl1, hl2, hl3, hl4⟩ := hPF k hlt
      obtain ⟨pa, rfl⟩ : ∃ pa, pA = some pa := by
        cases pA with
        | none => exact absurd (hpN rfl).1 (by omega)
        | some pa => exact ⟨pa, rfl⟩
      obtain ⟨ea, rfl, hec⟩ := heF.at_ (j := k) (by simpa using hlt)
      obtain ⟨ad, rfl⟩ : ∃ ad, A = some ad := by
        cases A with
        | none => exact absurd (hA rfl) (by omega)
        | some ad => exact ⟨ad, rfl⟩
      have hpl : (pieceS b E k).length = E.getD k 0 - (0 :: E).getD k 0 := by unfold pieceS; rw [List.length_drop, List.length_take]; omega
      have hpcell : wr.cell? (pa.add k) = some (.slice A' (pieceS b E k).length c') := by rw [hwr.out, World.cell?_drewN]; exact hpc
      have hecell : wr.cell? (ea.add k) = some (.int .i64 (E.getD k 0 : Nat)) := by rw [hwr.out, World.cell?_drewN, hec]; simp [iv, List.getD, List.getElem?_eq_getElem hlt]
      have hr2 : Rd wa (some (ad.add ((0 :: E).getD k 0))) ((pieceS b E k).map bv) := by
        have := (((hr.below hBf).take (E.getD k 0)).dropAt ((0 :: E).getD k 0))
        rw [← List.map_take, ← List.map_drop] at this
        exact this
      have hs1 := fun q' => run_string_rd (P := Try.prog) (wr.drewN q') 22 9 5 Try.underlying22 Try.underlying5 Try.underlying9 A' (pieceS b E k).length c' (pieceS b E k) rfl (by rw [hwr.out]; exact hl3) hl4
      have hs2 := fun q' => run_string_rd (P := Try.prog) (wr.drewN q') 22 9 5 Try.underlying22 Try.underlying5 Try.underlying9 (some (ad.add ((0 :: E).getD k 0))) (pieceS b E k).length (c - (0 :: E).getD k 0) (pieceS b E k) rfl (by rw [hwr.out]; exact hr2) (by simp)
      have hnext : (0 :: E).getD (k + 1) 0 = E.getD k 0 := List.getD_cons_succ
      rw [hpl] at hpcell hs1 hs2
      clear hpc hec hl3 hr2 hPF
      have hkx := hix k hk
      generalize (0 :: E).getD k 0 = x at *
      generalize E.getD k 0 = y at *
      generalize pieceS b E k = p at *
      have hyc : y ≤ c := by omega
      have hk4 : k + 1 ≤ 400 := by omega
      go_wp2_with fail
      go_quiet (fail)
      go_wp2_with fail
      go_roundw
      case rel => exact ⟨k + 1, q + nq, by omega, by go_num, by rw [hnext], by unfold Hid; rw [hwr.out, World.drewN_drewN]⟩
      case measure => simp [intOf]; omega
    · obtain rfl : k = E.length := by omega
      go_wp2_with fail
      go_ret
      refine ⟨rfl, hBf.trans ?_⟩
      rw [hwr.out]
      exact (((Keeps.refl [] wa).drewN q).below).mono hBf.size

theorem lawCutSays_any (mn mx wd : Int) (mask want : Nat) (A : Option Addr) (n c : Nat) (b : List Nat) (w : World) (hl : b.length = n) (hmc : n ≤ c) (hr : Rd w A (b.map bv)) (hA : A = none → n = 0) (hx : ∀ x ∈ b, x < 256) (hn : n ≤ maxLen)
    (hm : mask < 18446744073709551616) :
    Calls Try.prog 9 #[.agg #[.int .i64 mn, .int .i64 mx, .int .i64 wd, .int .u64 mask, .int .u64 want], .slice A n c] w fun e w' => e = .returned (.bool true) ∧ Below w.heap.size w w' := by
  unfold maxLen at hn
  by_cases h3 : n ≤ 400
  · exact lawCutSays_go mn mx wd mask want A n c b w hl hmc hr hA hx h3 hm
  · go_enter Try.func9, Try.ntmps9
    go_wp2_with (go_at_call 24; refine (awake6_any _).mono ?_; rintro e w1 ⟨rfl, hb1⟩)
    go_ret
    exact ⟨rfl, ((Below.refl w.heap.size w).alloc (Nat.le_refl _) (.cells #[.int .i64 mn, .int .i64 mx, .int .i64 wd, .int .u64 mask, .int .u64 want] 37)).trans (hb1.mono (by simp))⟩
end Go.Proofs.Ytibckdnfgopghaa
