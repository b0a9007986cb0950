/- Layer 6: the walk of CutAgain; its plain law. -/
import Derived.Test.YtibckdnfgopghaaCutJ
namespace Go.Proofs.Ytibckdnfgopghaa
open Go.RowKit

theorem ends_shift (f : List Nat → Nat) (hf : ∀ b : List Nat, b.length ≠ 0 → 1 ≤ f b ∧ f b ≤ b.length) : ∀ (n s d : Nat) (b : List Nat), b.length ≤ n → ends f (d + s) b = (ends f s b).map (d + ·) := by
  intro n
  induction n with
  | zero =>
    intro s d b h
    obtain rfl : b = [] := List.eq_nil_of_length_eq_zero (by omega)
    rfl
  | succ n ih =>
    intro s d b h
    by_cases hb : b.length = 0
    · obtain rfl : b = [] := List.eq_nil_of_length_eq_zero hb
      rfl
    · have := hf b hb
      rw [ends_step f hf _ b hb, ends_step f hf s b hb, List.map_cons, Nat.add_assoc, ih (s + f b) d _ (by rw [List.length_drop]; omega)]
theorem ends_tail (f : List Nat → Nat) (hf : ∀ b : List Nat, b.length ≠ 0 → 1 ≤ f b ∧ f b ≤ b.length) (b : List Nat) : ∀ i, i < (ends f 0 b).length → (ends f 0 b).drop (i + 1) = ends f ((ends f 0 b).getD i 0) (b.drop ((ends f 0 b).getD i 0)) := by
  have key : ∀ (n s : Nat) (b : List Nat), b.length ≤ n → ∀ i, i < (ends f s b).length → s ≤ (ends f s b).getD i 0 ∧ (ends f s b).drop (i + 1) = ends f ((ends f s b).getD i 0) (b.drop ((ends f s b).getD i 0 - s)) := by
    intro n s b h
    refine ends_ind f hf (fun s b E => ∀ i, i < E.length → s ≤ E.getD i 0 ∧ E.drop (i + 1) = ends f (E.getD i 0) (b.drop (E.getD i 0 - s))) ?_ ?_ n s b h
    · intro s i hi; simp at hi
    · intro s b hb ih i hi
      cases i with
      | zero =>
        simp only [List.getD_cons_zero, List.drop_succ_cons, List.drop_zero]
        refine ⟨by omega, ?_⟩
        rw [Nat.add_sub_cancel_left]
      | succ i =>
        have := ih i (by simpa using hi)
        simp only [List.getD_cons_succ, List.drop_succ_cons]
        refine ⟨by omega, ?_⟩
        rw [this.2, List.drop_drop]
        congr 2
        omega
  intro i hi
  have := key b.length 0 b (Nat.le_refl _) i hi
  simpa using this.2
theorem ends_again (f : List Nat → Nat) (hf : ∀ b : List Nat, b.length ≠ 0 → 1 ≤ f b ∧ f b ≤ b.length) (a b r : List Nat) (i k : Nat) (hi : i < (ends f 0 (a ++ r)).length) (hk : k < (ends f 0 (b ++ r)).length)
    (ha : a.length ≤ (ends f 0 (a ++ r)).getD i 0) (hb : b.length ≤ (ends f 0 (b ++ r)).getD k 0) (he : (ends f 0 (a ++ r)).getD i 0 - a.length = (ends f 0 (b ++ r)).getD k 0 - b.length) :
    (ends f 0 (a ++ r)).length - i = (ends f 0 (b ++ r)).length - k ∧ ∀ n, i + n < (ends f 0 (a ++ r)).length → (ends f 0 (a ++ r)).getD (i + n) 0 + b.length = (ends f 0 (b ++ r)).getD (k + n) 0 + a.length := by
  have t1 := ends_tail f hf (a ++ r) i hi
  have t2 := ends_tail f hf (b ++ r) k hk
  generalize ends f 0 (a ++ r) = E at *
  generalize ends f 0 (b ++ r) = F at *
  have d1 : (a ++ r).drop (E.getD i 0) = r.drop (E.getD i 0 - a.length) := by rw [List.drop_append, List.drop_of_length_le ha, List.nil_append]
  have d2 : (b ++ r).drop (F.getD k 0) = r.drop (E.getD i 0 - a.length) := by rw [List.drop_append, List.drop_of_length_le hb, List.nil_append, he]
  rw [d1] at t1
  rw [d2] at t2
  have s1 := ends_shift f hf _ 0 (E.getD i 0) (r.drop (E.getD i 0 - a.length)) (Nat.le_refl _)
  have s2 := ends_shift f hf _ 0 (F.getD k 0) (r.drop (E.getD i 0 - a.length)) (Nat.le_refl _)
  rw [Nat.add_zero] at s1 s2
  rw [s1] at t1
  rw [s2] at t2
  generalize ends f 0 (r.drop (E.getD i 0 - a.length)) = T at *
  have l1 := congrArg List.length t1
  have l2 := congrArg List.length t2
  rw [List.length_drop, List.length_map] at l1 l2
  refine ⟨by omega, fun n hn => ?_⟩
  cases n with
  | zero => rw [Nat.add_zero, Nat.add_zero]; omega
  | succ n =>
    have g1 : E.getD (i + (n + 1)) 0 = E.getD i 0 + T.getD n 0 := by
      have h1 := congrArg (fun z => z[n]?) t1
      simp only [List.getElem?_drop, List.getElem?_map] at h1
      rw [show i + 1 + n = i + (n + 1) by omega] at h1
      have hT : n < T.length := by omega
      simp only [List.getD, h1, List.getElem?_eq_getElem hT, Option.map_some, Option.getD_some]
    have g2 : F.getD (k + (n + 1)) 0 = F.getD k 0 + T.getD n 0 := by
      have h1 := congrArg (fun z => z[n]?) t2
      simp only [List.getElem?_drop, List.getElem?_map] at h1
      rw [show k + 1 + n = k + (n + 1) by omega] at h1
      have hT : n < T.length := by omega
      simp only [List.getD, h1, List.getElem?_eq_getElem hT, Option.map_some, Option.getD_some]
    omega

set_option maxHeartbeats 1600000 in
set_option maxRecDepth 100000 in
theorem lawAgain_go (mn mx wd : Int) (mask want : Nat) (A B R : Option Addr) (n c m d o u : Nat) (a b r : List Nat) (w : World) (hg : goodS mn mx wd = true)
    (hl : a.length = n) (hr : Rd w A (a.map bv)) (hA : A = none → n = 0) (hx : ∀ x ∈ a, x < 256) (hn : n ≤ 300)
    (hl2 : b.length = m) (hr2 : Rd w B (b.map bv)) (hB : B = none → m = 0) (hx2 : ∀ x ∈ b, x < 256) (hn2 : m ≤ 300)
    (hl3 : r.length = o) (hr3 : Rd w R (r.map bv)) (hR : R = none → o = 0) (hx3 : ∀ x ∈ r, x < 256) (hn3 : o ≤ 300) (hm : mask < 18446744073709551616) :
    Calls Try.prog 11 #[.agg #[.int .i64 mn, .int .i64 mx, .int .i64 wd, .int .u64 mask, .int .u64 want], .slice A n c, .slice B m d, .slice R o u] w fun e w' => e = .returned (.bool true) ∧ Below w.heap.size w w' := by
  go_enter Try.func11, Try.ntmps11
  go_wp2_with fail
  refine (awake6_any _).mono ?_
  rintro e w1 ⟨rfl, hb1⟩
  have hR1 := (Blk.new w 37 #[.int .i64 mn, .int .i64 mx, .int .i64 wd, .int .u64 mask, .int .u64 want]).below hb1
  have hB1 := ((Below.refl w.heap.size w).alloc (Nat.le_refl _) (.cells #[.int .i64 mn, .int .i64 mx, .int .i64 wd, .int .u64 mask, .int .u64 want] 37)).trans (hb1.mono (by simp))
  clear hb1
  obtain ⟨q0, q1, q2, q3, q4⟩ := rule5 hR1
  go_wp2_with fail
  refine (Good_any mn mx wd mask want _).mono ?_
  rintro e w2 ⟨rfl, hb2⟩
  rw [hg]
  have hB2 := hB1.trans (hb2.mono hB1.size)
  replace hR1 := hR1.below hb2
  clear q0 q1 q2 q3 q4 hB1 hb2
  go_wp2_with (at_builtin; refine wpList_append_seg _ rfl (.tmp 36) (.tmp 37) 22 rfl 5 (.int .u8 0) 1 1 Try.underlying22 info_u8 rfl (.slice (some ⟨w2.heap.size, 0, none⟩) 0 0) 0 [] [w2.heap.size] rfl (Seg.ofBlk (cap := 0) (Blk.new w2 _ #[]) rfl (by simp [maxLen])) A n c (a.map bv) rfl (by simp [hl]) ((hr.below hB2).alloc _) hA (by simp [bv, Value.oneCell']) (by simp only [maxLen]; omega) (by omega) ?_)
  intro v1 wA SA hsA hkA hSA
  have hA1 : Below w2.heap.size w2 wA := ((((Keeps.refl [] w2)).alloc (.cells #[] 5)).trans' hkA (fun x hx => .inr (by simp at hx; omega))).below
  have hSA1 : ∀ x ∈ SA, w2.heap.size ≤ x := by
    rcases hSA with rfl | rfl
    · simp
    · simp
  obtain ⟨A1, C1, rfl, _⟩ := hsA.form
  clear hkA hSA
  go_wp2_with (at_builtin; refine wpList_append_seg _ rfl (.tmp 38) (.tmp 39) 22 rfl 5 (.int .u8 0) 1 1 Try.underlying22 info_u8 rfl (.slice A1 n C1) n (a.map bv) SA rfl hsA R o u (r.map bv) rfl (by simp [hl3]) (hr3.below (hB2.trans (hA1.mono hB2.size))) hR (by simp [bv, Value.oneCell']) (by simp only [maxLen]; omega) (by omega) ?_)
  intro v2 wB SB hsB hkB hSB
  rw [← List.map_append] at hsB
  have hAB : Below w2.heap.size w2 wB := ((Keeps.of_below hA1 : Keeps SA w2 wA).trans hkB).belowB (Nat.le_refl _) hSA1
  have hSB1 : ∀ x ∈ SB, w2.heap.size ≤ x := by
    rcases hSB with rfl | rfl
    · exact hSA1
    · have := hA1.size; intro x hx; simp at hx; omega
  obtain ⟨A2, C2, rfl, _⟩ := hsB.form
  clear hkB hSB hsA
  have hBB := hB2.trans (hAB.mono hB2.size)
  replace hR1 := hR1.below hAB
  go_wp2_with (at_builtin; refine wpList_append_seg _ rfl (.tmp 41) (.tmp 42) 22 rfl 5 (.int .u8 0) 1 1 Try.underlying22 info_u8 rfl (.slice (some ⟨wB.heap.size, 0, none⟩) 0 0) 0 [] [wB.heap.size] rfl (Seg.ofBlk (cap := 0) (Blk.new wB _ #[]) rfl (by simp [maxLen])) B m d (b.map bv) rfl (by simp [hl2]) ((hr2.below hBB).alloc _) hB (by simp [bv, Value.oneCell']) (by simp only [maxLen]; omega) (by omega) ?_)
  intro v1 wC SC hsC hkC hSC
  have hC1 : Below wB.heap.size wB wC := ((((Keeps.refl [] wB)).alloc (.cells #[] 5)).trans' hkC (fun x hx => .inr (by simp at hx; omega))).below
  have hSC1 : ∀ x ∈ SC, wB.heap.size ≤ x := by
    rcases hSC with rfl | rfl
    · simp
    · simp
  obtain ⟨A3, C3, rfl, _⟩ := hsC.form
  clear hkC hSC
  go_wp2_with (at_builtin; refine wpList_append_seg _ rfl (.tmp 43) (.tmp 44) 22 rfl 5 (.int .u8 0) 1 1 Try.underlying22 info_u8 rfl (.slice A3 m C3) m (b.map bv) SC rfl hsC R o u (r.map bv) rfl (by simp [hl3]) (hr3.below (hBB.trans (hC1.mono hBB.size))) hR (by simp [bv, Value.oneCell']) (by simp only [maxLen]; omega) (by omega) ?_)
  intro v2 wD SD hsD hkD hSD
  rw [← List.map_append] at hsD
  have hCD : Below wB.heap.size wB wD := ((Keeps.of_below hC1 : Keeps SC wB wC).trans hkD).belowB (Nat.le_refl _) hSC1
  obtain ⟨A4, C4, rfl, hy1, hy2, hyR, _, hyN⟩ := hsD.form
  obtain ⟨_, _, hform, hx1, hx2', hxR, _, hxN⟩ := (hsB.below hCD).form
  simp only [Value.slice.injEq, true_and] at hform
  obtain ⟨rfl, rfl⟩ := hform
  have hBD := hBB.trans (hCD.mono hBB.size)
  replace hR1 := hR1.below hCD
  clear hkD hSD hsC hsD hsB hC1 hCD hAB hA1 hBB hSA1 hSB1 hSC1 hB2
  have hSk := rule5 hR1
  have hne1 := fun w hr => Ends_any mn mx wd mask want A2 (n + o) C2 (a ++ r) w (by simp [hl, hl3]) hx1 hr (fun e => (hxN e).1) (fun x hx' => by rcases List.mem_append.1 hx' with h | h; exact hx x h; exact hx3 x h) (by omega) hm
  have hne2 := fun w hr => Ends_any mn mx wd mask want A4 (m + o) C4 (b ++ r) w (by simp [hl2, hl3]) hy1 hr (fun e => (hyN e).1) (fun x hx' => by rcases List.mem_append.1 hx' with h | h; exact hx2 x h; exact hx3 x h) (by omega) hm
  have hbE := endsR_bounds mn mx wd mask want (a ++ r)
  have hbF := endsR_bounds mn mx wd mask want (b ++ r)
  have hag : ∀ i k, i < (endsR mn mx wd mask want (a ++ r)).length → k < (endsR mn mx wd mask want (b ++ r)).length → n ≤ (endsR mn mx wd mask want (a ++ r)).getD i 0 → m ≤ (endsR mn mx wd mask want (b ++ r)).getD k 0 → (endsR mn mx wd mask want (a ++ r)).getD i 0 - n = (endsR mn mx wd mask want (b ++ r)).getD k 0 - m →
      (endsR mn mx wd mask want (a ++ r)).length - i = (endsR mn mx wd mask want (b ++ r)).length - k ∧ ∀ j, i + j < (endsR mn mx wd mask want (a ++ r)).length → (endsR mn mx wd mask want (a ++ r)).getD (i + j) 0 + m = (endsR mn mx wd mask want (b ++ r)).getD (k + j) 0 + n := by
    intro i k
    have := ends_again (nextR mn mx wd mask want) (nextR_f mask want hg) a b r i k
    rw [hl, hl2] at this
    unfold endsR
    rw [if_pos hg, if_pos hg]
    exact this
  rw [List.length_append, hl, hl3] at hbE
  rw [List.length_append, hl2, hl3] at hbF
  generalize endsR mn mx wd mask want (a ++ r) = E at *
  generalize endsR mn mx wd mask want (b ++ r) = F at *
  have hiE := ends_index hbE
  have hiF := ends_index hbF
  go_wp2_with fail
  go_region_held3 (fun w' => w'.cell? ⟨w.heap.size, 0, none⟩ = some (.int .i64 mn) ∧ w'.cell? ⟨w.heap.size, 1, none⟩ = some (.int .i64 mx) ∧ w'.cell? ⟨w.heap.size, 2, none⟩ = some (.int .i64 wd) ∧ w'.cell? ⟨w.heap.size, 3, none⟩ = some (.int .u64 mask) ∧ w'.cell? ⟨w.heap.size, 4, none⟩ = some (.int .u64 want)) (first | assumption | go_keep)
    (first
      | (go_at_call 26
         have hDE' := hDE
         refine (hne2 _ (hyR.below hDE)).mono ?_
         rintro e wF ⟨v, SF, rfl, hsF, hSF, hbF2⟩
         obtain ⟨fA, fC, rfl, hf1, hf2, hfR, hfB, hfN⟩ := hsF.form
         have hDF : Below wD.heap.size wD wF := hDE.trans (hbF2.mono hDE.size)
         have hSkF := rule5 (hR1.below hDF)
         have heRF := heR.below hbF2)
      | (go_at_call 26
         refine (hne1 _ hxR.drew).mono ?_
         rintro e wE ⟨v, SE, rfl, hsE, hSE, hbE2⟩
         obtain ⟨eA, eC, rfl, he1, he2, heR, heB, heN⟩ := hsE.form
         have hDE : Below wD.heap.size wD wE := ((Keeps.refl [] wD).drew.below).trans (hbE2.mono (Nat.le_refl _))
         have hSkE := rule5 (hR1.below hDE)))
  have hBF := hBD.trans (hDF.mono hBD.size)
  clear hne1 hne2 hSk hSkE hSkF hDE hDF hbE2 hbF2 heR hsE hsF hSE hSF hR1 hBD hyR hxR hx1 hx2' hxN hy1 hy2 hyN heB hfB
  have hcE : ∀ i, i < E.length → ∃ ea, eA = some ea ∧ ∀ q, (wF.drewN q).cell? (ea.add i) = some (.int .i64 (E.getD i 0 : Nat)) := fun i hi => by
    obtain ⟨ad, rfl, hc⟩ := heRF.at_ (j := i) (by simpa using hi)
    exact ⟨ad, rfl, fun q => by rw [World.cell?_drewN, hc]; simp [iv, List.getD, List.getElem?_eq_getElem hi]⟩
  have hcF : ∀ i, i < F.length → ∃ fa, fA = some fa ∧ ∀ q, (wF.drewN q).cell? (fa.add i) = some (.int .i64 (F.getD i 0 : Nat)) := fun i hi => by
    obtain ⟨ad, rfl, hc⟩ := hfR.at_ (j := i) (by simpa using hi)
    exact ⟨ad, rfl, fun q => by rw [World.cell?_drewN, hc]; simp [iv, List.getD, List.getElem?_eq_getElem hi]⟩
  have hLE : E.length ≤ 600 := by
    rcases Nat.eq_zero_or_pos E.length with h | h
    · omega
    · have h1 := hbE (E.length - 1) (by omega); have h2 := hiE (E.length - 1) (by omega); omega
  have hLF : F.length ≤ 600 := by
    rcases Nat.eq_zero_or_pos F.length with h | h
    · omega
    · have h1 := hbF (F.length - 1) (by omega); have h2 := hiF (F.length - 1) (by omega); omega
  have hBq : ∀ q, Below w.heap.size w (wF.drewN q) := fun q => hBF.trans ((((Keeps.refl [] wF).drewN q).below).mono hBF.size)
  clear hiE hiF heRF hfR hBF
  go_wp2_with fail
  go_loopw [13] (fun v wr => ∃ i q : Nat, i ≤ E.length ∧ v = .int .i64 i ∧ Hid (wr = wF.drewN q)) (fun v _ => E.length - (intOf v).toNat)
  case atStart => exact ⟨0, 0, Nat.zero_le _, rfl, rfl⟩
  case round =>
    obtain ⟨i, q, hi, rfl, hwr⟩ := hrel
    by_cases hlt : i < E.length
    · obtain ⟨ea, rfl, hce⟩ := hcE i hlt
      go_wp2_with fail
      go_loopw [14] (fun v wr2 => ∃ k q : Nat, k ≤ F.length ∧ v = .int .i64 k ∧ Hid (wr2 = wF.drewN q)) (fun v _ => F.length - (intOf v).toNat)
      case atStart => exact ⟨0, q, Nat.zero_le _, rfl, hwr⟩
      case round =>
        obtain ⟨k, q2, hk, rfl, hwr2⟩ := hrel
        by_cases hlk : k < F.length
        · obtain ⟨fa, rfl, hcf⟩ := hcF k hlk
          have ce : wr.cell? (ea.add i) = some (.int .i64 (E.getD i 0 : Nat)) := by rw [hwr2.out]; exact hce q2
          have cf : wr.cell? (fa.add k) = some (.int .i64 (F.getD k 0 : Nat)) := by rw [hwr2.out]; exact hcf q2
          have bE := (hbE i hlt).2
          have bF := (hbF k hlk).2
          have hag2 := hag i k hlt hlk
          generalize E.getD i 0 = x at *
          generalize F.getD k 0 = y at *
          by_cases c1 : n ≤ x
          · have c1' : (n : Int) ≤ (x : Int) := by omega
            by_cases c2 : m ≤ y
            · have c2' : (m : Int) ≤ (y : Int) := by omega
              by_cases c3 : x - n = y - m
              · have c3' : (((x : Int) - (n : Int)) == ((y : Int) - (m : Int))) = true := by simp; omega
                obtain ⟨hlen, hal⟩ := hag2 c1 c2 c3
                have hq : (!(((E.length : Int) - (i : Int)) == ((F.length : Int) - (k : Int)))) = false := by simp; omega
                go_wp2_with fail
                go_quiet (fail)
                go_wp2_with fail
                go_loopw [15] (fun v wr3 => ∃ j q : Nat, i + j ≤ E.length ∧ v = .int .i64 j ∧ Hid (wr3 = wF.drewN q)) (fun v _ => E.length - (intOf v).toNat)
                case atStart => exact ⟨0, q2 + nq, by omega, rfl, by unfold Hid; rw [hwr2.out, World.drewN_drewN]⟩
                case round =>
                  obtain ⟨j, q3, hj, rfl, hwr3⟩ := hrel
                  have hsum : IntKind.i64.wrap ((i : Int) + (j : Int)) = ((i + j : Nat) : Int) := by rw [IntKind.wrap_i64]; omega
                  have hsum2 : IntKind.i64.wrap ((k : Int) + (j : Int)) = ((k + j : Nat) : Int) := by rw [IntKind.wrap_i64]; omega
                  by_cases hlj : i + j < E.length
                  · obtain ⟨_, he', hce3⟩ := hcE (i + j) hlj
                    injection he' with he'
                    subst he'
                    obtain ⟨_, hf', hcf3⟩ := hcF (k + j) (by omega)
                    injection hf' with hf'
                    subst hf'
                    have ce3 : wr.cell? (ea.add (i + j)) = some (.int .i64 (E.getD (i + j) 0 : Nat)) := by rw [hwr3.out]; exact hce3 q3
                    have cf3 : wr.cell? (fa.add (k + j)) = some (.int .i64 (F.getD (k + j) 0 : Nat)) := by rw [hwr3.out]; exact hcf3 q3
                    have b3 := (hbE (i + j) hlj).2
                    have b4 := (hbF (k + j) (by omega)).2
                    have hx3 := hal j hlj
                    generalize E.getD (i + j) 0 = x3 at *
                    generalize F.getD (k + j) 0 = y3 at *
                    have c4 : (!(((x3 : Int) - (n : Int)) == ((y3 : Int) - (m : Int)))) = false := by simp; omega
                    have hlj' : (i : Int) + (j : Int) < (E.length : Int) := by omega
                    have hkj' : (k : Int) + (j : Int) < (F.length : Int) := by omega
                    go_wp2_with fail
                    go_quiet (fail)
                    go_wp2_with fail
                    go_roundw
                    case rel => exact ⟨j + 1, _, by omega, by go_num, by unfold Hid; rw [hwr3.out, World.drewN_drewN]⟩
                    case measure => simp [intOf]; omega
                  · have hlj' : ¬ (i : Int) + (j : Int) < (E.length : Int) := by omega
                    go_wp2_with fail
                    go_ret
                    exact ⟨rfl, by rw [hwr3.out]; exact hBq q3⟩
              · have c3' : (((x : Int) - (n : Int)) == ((y : Int) - (m : Int))) = false := by simp; omega
                go_wp2_with fail
                go_quiet (fail)
                go_wp2_with fail
                go_roundw
                case rel => exact ⟨k + 1, _, by omega, by go_num, by unfold Hid; rw [hwr2.out, World.drewN_drewN]⟩
                case measure => simp [intOf]; omega
            · have c2' : ¬ (m : Int) ≤ (y : Int) := by omega
              go_wp2_with fail
              go_quiet (fail)
              go_wp2_with fail
              go_roundw
              case rel => exact ⟨k + 1, _, by omega, by go_num, by unfold Hid; rw [hwr2.out, World.drewN_drewN]⟩
              case measure => simp [intOf]; omega
          · have c1' : ¬ (n : Int) ≤ (x : Int) := by omega
            go_wp2_with fail
            go_quiet (fail)
            go_wp2_with fail
            go_roundw
            case rel => exact ⟨k + 1, _, by omega, by go_num, by unfold Hid; rw [hwr2.out, World.drewN_drewN]⟩
            case measure => simp [intOf]; omega
        · obtain rfl : k = F.length := by omega
          go_wp2_with fail
          go_roundw
          case rel => exact ⟨i + 1, q2, by omega, by go_num, hwr2⟩
          case measure => simp [intOf]; omega
    · obtain rfl : i = E.length := by omega
      go_wp2_with fail
      go_ret
      exact ⟨rfl, by rw [hwr.out]; exact hBq q⟩

set_option maxHeartbeats 1600000 in
set_option maxRecDepth 100000 in
theorem lawAgain_any (mn mx wd : Int) (mask want : Nat) (A B R : Option Addr) (n c m d o u : Nat) (a b r : List Nat) (w : World)
    (hl : a.length = n) (hr : Rd w A (a.map bv)) (hA : A = none → n = 0) (hx : ∀ x ∈ a, x < 256) (hn : n ≤ maxLen)
    (hl2 : b.length = m) (hr2 : Rd w B (b.map bv)) (hB : B = none → m = 0) (hx2 : ∀ x ∈ b, x < 256) (hn2 : m ≤ maxLen)
    (hl3 : r.length = o) (hr3 : Rd w R (r.map bv)) (hR : R = none → o = 0) (hx3 : ∀ x ∈ r, x < 256) (hn3 : o ≤ maxLen) (hm : mask < 18446744073709551616) :
    Calls Try.prog 11 #[.agg #[.int .i64 mn, .int .i64 mx, .int .i64 wd, .int .u64 mask, .int .u64 want], .slice A n c, .slice B m d, .slice R o u] w fun e w' => e = .returned (.bool true) ∧ Below w.heap.size w w' := by
  unfold maxLen at hn hn2 hn3
  by_cases hg : goodS mn mx wd = true
  · by_cases h1 : n ≤ 300
    · by_cases h2 : m ≤ 300
      · by_cases h3 : o ≤ 300
        · exact lawAgain_go mn mx wd mask want A B R n c m d o u a b r w hg hl hr hA hx h1 hl2 hr2 hB hx2 h2 hl3 hr3 hR hx3 h3 hm
        · go_enter Try.func11, Try.ntmps11
          go_wp2_with (first
            | (go_at_call 24; refine (awake6_any _).mono ?_; rintro e w1 ⟨rfl, hb1⟩; have hR1 := (Blk.new w 37 #[.int .i64 mn, .int .i64 mx, .int .i64 wd, .int .u64 mask, .int .u64 want]).below hb1; have hB1 := ((Below.refl w.heap.size w).alloc (Nat.le_refl _) (.cells #[.int .i64 mn, .int .i64 mx, .int .i64 wd, .int .u64 mask, .int .u64 want] 37)).trans (hb1.mono (by simp)); obtain ⟨q0, q1, q2, q3, q4⟩ := rule5 hR1)
            | (go_at_call 25; refine (Good_any mn mx wd mask want _).mono ?_; rintro e w2 ⟨rfl, hb2⟩; rw [hg]))
          go_ret
          exact ⟨rfl, hB1.trans (hb2.mono hB1.size)⟩
      · go_enter Try.func11, Try.ntmps11
        go_wp2_with (first
          | (go_at_call 24; refine (awake6_any _).mono ?_; rintro e w1 ⟨rfl, hb1⟩; have hR1 := (Blk.new w 37 #[.int .i64 mn, .int .i64 mx, .int .i64 wd, .int .u64 mask, .int .u64 want]).below hb1; have hB1 := ((Below.refl w.heap.size w).alloc (Nat.le_refl _) (.cells #[.int .i64 mn, .int .i64 mx, .int .i64 wd, .int .u64 mask, .int .u64 want] 37)).trans (hb1.mono (by simp)); obtain ⟨q0, q1, q2, q3, q4⟩ := rule5 hR1)
          | (go_at_call 25; refine (Good_any mn mx wd mask want _).mono ?_; rintro e w2 ⟨rfl, hb2⟩; rw [hg]))
        go_ret
        exact ⟨rfl, hB1.trans (hb2.mono hB1.size)⟩
    · go_enter Try.func11, Try.ntmps11
      go_wp2_with (first
        | (go_at_call 24; refine (awake6_any _).mono ?_; rintro e w1 ⟨rfl, hb1⟩; have hR1 := (Blk.new w 37 #[.int .i64 mn, .int .i64 mx, .int .i64 wd, .int .u64 mask, .int .u64 want]).below hb1; have hB1 := ((Below.refl w.heap.size w).alloc (Nat.le_refl _) (.cells #[.int .i64 mn, .int .i64 mx, .int .i64 wd, .int .u64 mask, .int .u64 want] 37)).trans (hb1.mono (by simp)); obtain ⟨q0, q1, q2, q3, q4⟩ := rule5 hR1)
        | (go_at_call 25; refine (Good_any mn mx wd mask want _).mono ?_; rintro e w2 ⟨rfl, hb2⟩; rw [hg]))
      go_ret
      exact ⟨rfl, hB1.trans (hb2.mono hB1.size)⟩
  · have hg' : goodS mn mx wd = false := by simpa using hg
    go_enter Try.func11, Try.ntmps11
    go_wp2_with (first
      | (go_at_call 24; refine (awake6_any _).mono ?_; rintro e w1 ⟨rfl, hb1⟩; have hR1 := (Blk.new w 37 #[.int .i64 mn, .int .i64 mx, .int .i64 wd, .int .u64 mask, .int .u64 want]).below hb1; have hB1 := ((Below.refl w.heap.size w).alloc (Nat.le_refl _) (.cells #[.int .i64 mn, .int .i64 mx, .int .i64 wd, .int .u64 mask, .int .u64 want] 37)).trans (hb1.mono (by simp)); obtain ⟨q0, q1, q2, q3, q4⟩ := rule5 hR1)
      | (go_at_call 25; refine (Good_any mn mx wd mask want _).mono ?_; rintro e w2 ⟨rfl, hb2⟩; rw [hg']))
    go_ret
    exact ⟨rfl, hB1.trans (hb2.mono hB1.size)⟩
end Go.Proofs.Ytibckdnfgopghaa
