/- Joined: StraC, StraD, PeelK, StraE, ReconA, SetL, SetM, ReconB, ReconC, TabQ, SetR, TabS, TabT, TabV, ReconD, ReconE. -/
import Derived.RegionTactic
import Derived.Test.YtmefpnklgfhggaaGreatDoorZReconKnownCard4
/- Strata by types: Differ. -/
namespace Go.Proofs.YtmefpnklgfhggaaGreatDoor
open Go.RowKit

set_option maxRecDepth 100000 in
theorem differ_bad (sa sb : Nat) (A B : List (List Cl)) (hA : A.length ≤ 1000000) (hBl : B.length ≤ 1000000) (h : (goodSt A && goodSt B && decide (sa = sb)) = false) : Fn2 Tryz.prog 42 (Ty.stra 40 69 sa A) (Ty.stra 40 69 sb B) (Ty.tup [Ty.ex (.int .i64 0), Ty.ex (.int .i64 1)]) := by
  refine ⟨fun args w => by kernel_rfl, fun w v u ⟨s, hv, hs⟩ ⟨s2, hu, hs2⟩ => ?_⟩
  subst hv hu
  have gA := sgood_ty sa A hA
  have gB := sgood_ty sb B hBl
  let TA := Ty.tabs 40 69 sa A
  let TB := Ty.tabs 40 69 sb B
  refine enter_ty 69 [Ty.ex (.agg #[.int .u64 (sa : Int), s]), Ty.ex (.agg #[.int .u64 (sb : Int), s2])] Tryz.func42 rfl (by kernel_rfl) ⟨rfl, rfl, trivial⟩ fun a hF => ?_
  have hB := Below.refl w.heap.size w
  repeat with_reducible first | refine wp_seq ?_ | refine nThen ?_ | refine wp_ret ?_ | refine rThen ?_
  refine' reg_all hF ?_ mixed (by kernel_rfl) ?_
  rotate_left
  · repeat (first
        | exact Line.nil
        | (refine' Line.cons rfl (.no rfl rfl rfl rfl rfl rfl) ?_; rotate_left)
        | ((first | refine' Line.cons rfl (.run rfl rfl ?_) ?_ | refine' Line.cons rfl (.yes rfl rfl rfl rfl ?_) ?_)
           any_goals (first | exact cMove rfl rfl | exact cAssign rfl rfl | exact cNot rfl rfl | exact cBoxTab rfl rfl | exact cPickT rfl rfl rfl | exact cPickF rfl rfl rfl | exact cNeq rfl rfl rfl)
           rotate_left))
  intro a w1 hF hb hN
  have hBs := hB.size
  replace hB := hB.trans (hb.mono hB.size)
  dsimp only [ext, Option.getD] at hF
  repeat with_reducible first | refine wp_seq ?_ | refine nThen ?_ | refine wp_ret ?_ | refine rThen ?_
  replace hF := hF.as hF (s := 2) (σ := Ty.straP StT 40 69 sa A) rfl (fun v hv => ⟨s, hv, TA.below hs hB⟩)
  replace hF := hF.as hF (s := 3) (σ := Ty.straP StT 40 69 sb B) rfl (fun v hv => ⟨s2, hv, TB.below hs2 hB⟩)
  refine wp_mono (Q := fun e a w' => e = .normal ∧ Fr 69 [(26, Ty.ex (.bool true))] a w' ∧ Below w.heap.size w w') ?_ ?_
  · cases g1 : goodSt A with
    | false =>
      rw [g1] at gA
      refine' reg_all hF ?_ mixed (by kernel_rfl) ?_
      rotate_left
      · repeat (first
            | exact Line.nil
            | (refine' Line.cons rfl (.no rfl rfl rfl rfl rfl rfl) ?_; rotate_left)
            | ((first | refine' Line.cons rfl (.run rfl rfl ?_) ?_ | refine' Line.cons rfl (.yes rfl rfl rfl rfl ?_) ?_)
               any_goals (first | exact cMove rfl rfl | exact cAssign rfl rfl | exact cNot rfl rfl | exact cLoadStA rfl (.t rfl) | exact cCall1 rfl rfl gA | exact cPickT rfl rfl rfl | exact cPickF rfl rfl rfl | exact cNeq rfl rfl rfl)
               rotate_left))
      intro a w2 hF hb hN
      have hBs := hB.size
      replace hB := hB.trans (hb.mono hB.size)
      dsimp only [ext, Option.getD] at hF
      repeat with_reducible first | refine wp_seq ?_ | refine nThen ?_ | refine wp_ret ?_ | refine rThen ?_
      exact ⟨rfl, hF.keep [26], hB⟩
    | true =>
    cases g2 : goodSt B with
    | false =>
      rw [g1] at gA
      rw [g2] at gB
      refine' reg_all hF ?_ mixed (by kernel_rfl) ?_
      rotate_left
      · repeat (first
            | exact Line.nil
            | (refine' Line.cons rfl (.no rfl rfl rfl rfl rfl rfl) ?_; rotate_left)
            | ((first | refine' Line.cons rfl (.run rfl rfl ?_) ?_ | refine' Line.cons rfl (.yes rfl rfl rfl rfl ?_) ?_)
               any_goals (first | exact cMove rfl rfl | exact cAssign rfl rfl | exact cNot rfl rfl | exact cLoadStA rfl (.t rfl) | exact cCall1 rfl rfl gA | exact cCall1 rfl rfl gB | exact cPickT rfl rfl rfl | exact cPickF rfl rfl rfl | exact cNeq rfl rfl rfl)
               rotate_left))
      intro a w2 hF hb hN
      have hBs := hB.size
      replace hB := hB.trans (hb.mono hB.size)
      dsimp only [ext, Option.getD] at hF
      repeat with_reducible first | refine wp_seq ?_ | refine nThen ?_ | refine wp_ret ?_ | refine rThen ?_
      exact ⟨rfl, hF.keep [26], hB⟩
    | true =>
      rw [g1] at gA
      rw [g2] at gB
      rw [g1, g2] at h
      have hne : ¬ sa = sb := of_decide_eq_false (by simpa using h)
      refine' reg_all hF ?_ mixed (by kernel_rfl) ?_
      rotate_left
      · repeat (first
            | exact Line.nil
            | (refine' Line.cons rfl (.no rfl rfl rfl rfl rfl rfl) ?_; rotate_left)
            | ((first | refine' Line.cons rfl (.run rfl rfl ?_) ?_ | refine' Line.cons rfl (.yes rfl rfl rfl rfl ?_) ?_)
               any_goals (first | exact cMove rfl rfl | exact cAssign rfl rfl | exact cNot rfl rfl | exact cLoadStA rfl (.t rfl) | exact cCall1 rfl rfl gA | exact cCall1 rfl rfl gB | exact cStraSA rfl (.t rfl) | exact cLoadU64 rfl (.t rfl) | exact OpOk.b (c := true) (cNeq rfl rfl rfl) (by simp; omega) | exact cPickT rfl rfl rfl | exact cPickF rfl rfl rfl | exact cNeq rfl rfl rfl)
               rotate_left))
      intro a w2 hF hb hN
      have hBs := hB.size
      replace hB := hB.trans (hb.mono hB.size)
      dsimp only [ext, Option.getD] at hF
      repeat with_reducible first | refine wp_seq ?_ | refine nThen ?_ | refine wp_ret ?_ | refine rThen ?_
      exact ⟨rfl, hF.keep [26], hB⟩
  clear hF hB
  rintro e a w2 ⟨rfl, hF, hB⟩
  repeat with_reducible first | refine wp_seq ?_ | refine nThen ?_ | refine wp_ret ?_ | refine rThen ?_
  refine cond_t hF rfl ?_
  repeat with_reducible first | refine wp_seq ?_ | refine nThen ?_ | refine wp_ret ?_ | refine rThen ?_
  refine' reg_all hF ?_ mixed (by kernel_rfl) ?_
  rotate_left
  · repeat (first
        | exact Line.nil
        | (refine' Line.cons rfl (.no rfl rfl rfl rfl rfl rfl) ?_; rotate_left)
        | ((first | refine' Line.cons rfl (.run rfl rfl ?_) ?_ | refine' Line.cons rfl (.yes rfl rfl rfl rfl ?_) ?_)
           any_goals (first | exact cMove rfl rfl | exact cAssign rfl rfl | exact cNot rfl rfl | exact cPickT rfl rfl rfl | exact cPickF rfl rfl rfl | exact cNeq rfl rfl rfl)
           rotate_left))
  intro a w3 hF hb hN
  have hBs := hB.size
  replace hB := hB.trans (hb.mono hB.size)
  dsimp only [ext, Option.getD] at hF
  repeat with_reducible first | refine wp_seq ?_ | refine nThen ?_ | refine wp_ret ?_ | refine rThen ?_
  refine ret2 hF rfl rfl rfl fun a b ha hb => ?_
  exact ⟨_, rfl, ⟨[a, b], rfl, ha, hb, trivial⟩, hB⟩
set_option maxRecDepth 100000 in
set_option maxHeartbeats 4000000 in
theorem differ_ty (sd : Nat) (A B : List (List Cl)) (hsd : sd < 18446744073709551616) (g1 : goodSt A = true) (g2 : goodSt B = true) : Fn2 Tryz.prog 42 (Ty.stra 40 69 sd A) (Ty.stra 40 69 sd B) (Ty.tup [Ty.ex (.int .i64 (difGo sd A B 10 0 : Nat)), Ty.ex (.int .i64 0)]) := by
  refine ⟨fun args w => by kernel_rfl, fun w v u ⟨s, hv, hs⟩ ⟨s2, hu, hs2⟩ => ?_⟩
  subst hv hu
  obtain ⟨lA, hA⟩ := goodSt_get g1
  obtain ⟨lB, hBn⟩ := goodSt_get g2
  have gA := sgood_ty sd A (by omega)
  have gB := sgood_ty sd B (by omega)
  rw [g1] at gA
  rw [g2] at gB
  let TA := Ty.tabs 40 69 sd A
  let TB := Ty.tabs 40 69 sd B
  let PA := Ty.straP StT 40 69 sd A
  let PB := Ty.straP StT 40 69 sd B
  refine enter_ty 69 [Ty.ex (.agg #[.int .u64 (sd : Int), s]), Ty.ex (.agg #[.int .u64 (sd : Int), s2])] Tryz.func42 rfl (by kernel_rfl) ⟨rfl, rfl, trivial⟩ fun a hF => ?_
  have hB := Below.refl w.heap.size w
  repeat with_reducible first | refine wp_seq ?_ | refine nThen ?_ | refine nBlk ?_ | refine wp_skip ?_ | refine wp_block ?_ | refine wp_exit ?_ | refine xThen ?_ | refine xHere ?_ | refine wp_ret ?_ | refine rThen ?_ | refine rBlk ?_
  refine' reg_all hF ?_ mixed (by kernel_rfl) ?_
  rotate_left
  · repeat (first
        | exact Line.nil
        | ((first | refine' Line.cons rfl (.run rfl rfl ?_) ?_ | refine' Line.cons rfl (.yes rfl rfl rfl rfl ?_) ?_)
           any_goals (first | exact cMove rfl rfl | exact cAssign rfl rfl | exact cNot rfl rfl | exact cBoxTab rfl rfl | exact cPickF rfl rfl rfl | exact cGeq rfl rfl rfl | exact cEql rfl rfl rfl | exact cNeq rfl rfl rfl | exact cExtract rfl rfl rfl)
           rotate_left))
  intro a w1 hF hb hN
  have hBs := hB.size
  replace hB := hB.trans (hb.mono hB.size)
  dsimp only [ext, Option.getD] at hF
  repeat with_reducible first | refine wp_seq ?_ | refine nThen ?_ | refine nBlk ?_ | refine wp_skip ?_ | refine wp_block ?_ | refine wp_exit ?_ | refine xThen ?_ | refine xHere ?_ | refine wp_ret ?_ | refine rThen ?_ | refine rBlk ?_
  obtain ⟨p2, hp2, hF⟩ := hF.open (s := 2) rfl
  obtain ⟨p3, hp3, hF⟩ := hF.open (s := 3) rfl
  have hp2 : PA.p w1 p2 := ⟨s, hp2, TA.below hs hB⟩
  have hp3 : PB.p w1 p3 := ⟨s2, hp3, TB.below hs2 hB⟩
  have hB1 := hB
  replace hB := Below.refl w1.heap.size w1
  refine' reg_all hF ?_ mixed (by kernel_rfl) ?_
  rotate_left
  · repeat (first
        | exact Line.nil
        | ((first | refine' Line.cons rfl (.run rfl rfl ?_) ?_ | refine' Line.cons rfl (.yes rfl rfl rfl rfl ?_) ?_)
           any_goals (first | exact cMove rfl rfl | exact cAssign rfl rfl | exact cNot rfl rfl | exact cLoadStA rfl (.l rfl hp2) | exact cLoadStA rfl (.l rfl hp3) | exact cCall1 rfl rfl gA | exact cCall1 rfl rfl gB | exact cStraSA rfl (.l rfl hp2) | exact cStraSA rfl (.l rfl hp3) | exact cLoadU64 rfl (.t rfl) | exact OpOk.b (c := false) (cNeq rfl rfl rfl) (by simp) | exact cPickF rfl rfl rfl | exact cGeq rfl rfl rfl | exact cEql rfl rfl rfl | exact cNeq rfl rfl rfl | exact cExtract rfl rfl rfl)
           rotate_left))
  intro a w2 hF hb hN
  have hBs := hB.size
  replace hB := hB.trans (hb.mono hB.size)
  dsimp only [ext, Option.getD] at hF
  repeat with_reducible first | refine wp_seq ?_ | refine nThen ?_ | refine nBlk ?_ | refine wp_skip ?_ | refine wp_block ?_ | refine wp_exit ?_ | refine xThen ?_ | refine xHere ?_ | refine wp_ret ?_ | refine rThen ?_ | refine rBlk ?_
  refine cond_f hF rfl ?_
  repeat with_reducible first | refine wp_seq ?_ | refine nThen ?_ | refine nBlk ?_ | refine wp_skip ?_ | refine wp_block ?_ | refine wp_exit ?_ | refine xThen ?_ | refine xHere ?_ | refine wp_ret ?_ | refine rThen ?_ | refine rBlk ?_
  refine' reg_all hF ?_ mixed (by kernel_rfl) ?_
  rotate_left
  · repeat (first
        | exact Line.nil
        | ((first | refine' Line.cons rfl (.run rfl rfl ?_) ?_ | refine' Line.cons rfl (.yes rfl rfl rfl rfl ?_) ?_)
           any_goals (first | exact cMove rfl rfl | exact cAssign rfl rfl | exact cNot rfl rfl | exact cPickF rfl rfl rfl | exact cGeq rfl rfl rfl | exact cEql rfl rfl rfl | exact cNeq rfl rfl rfl | exact cExtract rfl rfl rfl)
           rotate_left))
  intro a w3 hF hb hN
  have hBs := hB.size
  replace hB := hB.trans (hb.mono hB.size)
  dsimp only [ext, Option.getD] at hF
  repeat with_reducible first | refine wp_seq ?_ | refine nThen ?_ | refine nBlk ?_ | refine wp_skip ?_ | refine wp_block ?_ | refine wp_exit ?_ | refine xThen ?_ | refine xHere ?_ | refine wp_ret ?_ | refine rThen ?_ | refine rBlk ?_
  refine' reg_all hF ?_ mixed (by kernel_rfl) ?_
  rotate_left
  · repeat (first
        | exact Line.nil
        | ((first | refine' Line.cons rfl (.run rfl rfl ?_) ?_ | refine' Line.cons rfl (.yes rfl rfl rfl rfl ?_) ?_)
           any_goals (first | exact cMove rfl rfl | exact cAssign rfl rfl | exact cNot rfl rfl | exact cPickF rfl rfl rfl | exact cGeq rfl rfl rfl | exact cEql rfl rfl rfl | exact cNeq rfl rfl rfl | exact cExtract rfl rfl rfl)
           rotate_left))
  intro a w4 hF hb hN
  have hBs := hB.size
  replace hB := hB.trans (hb.mono hB.size)
  dsimp only [ext, Option.getD] at hF
  repeat with_reducible first | refine wp_seq ?_ | refine nThen ?_ | refine nBlk ?_ | refine wp_skip ?_ | refine wp_block ?_ | refine wp_exit ?_ | refine xThen ?_ | refine xHere ?_ | refine wp_ret ?_ | refine rThen ?_ | refine rBlk ?_
  refine loop_ty (fun k a wr => ∃ n : Nat, k ≤ 10 ∧ n + 2050 * k ≤ 20500 ∧ difGo sd A B k n = difGo sd A B 10 0 ∧ Fr 69 [(2, Ty.ex p2), (3, Ty.ex p3), (6, Ty.ex (.int .i64 (n : Int))), (7, Ty.ex (.int .i64 ((k : Int) - 1)))] a wr ∧ Below w1.heap.size w1 wr) 10 ?_ ?_
  · exact ⟨0, by omega, by omega, rfl, hF.keep [2, 3, 6, 7], hB⟩
  clear hF hB
  rintro k a wr ⟨n, hk, hn, hgo, hF, hB⟩
  repeat with_reducible first | refine wp_seq ?_ | refine nThen ?_ | refine nBlk ?_ | refine wp_skip ?_ | refine wp_block ?_ | refine wp_exit ?_ | refine xThen ?_ | refine xHere ?_ | refine wp_ret ?_ | refine rThen ?_ | refine rBlk ?_
  refine' reg_all hF ?_ mixed (by kernel_rfl) ?_
  rotate_left
  · repeat (first
        | exact Line.nil
        | ((first | refine' Line.cons rfl (.run rfl rfl ?_) ?_ | refine' Line.cons rfl (.yes rfl rfl rfl rfl ?_) ?_)
           any_goals (first | exact cMove rfl rfl | exact cAssign rfl rfl | exact cNot rfl rfl | exact cPickF rfl rfl rfl | exact cGeq rfl rfl rfl | exact cEql rfl rfl rfl | exact cNeq rfl rfl rfl | exact cExtract rfl rfl rfl)
           rotate_left))
  intro a w5 hF hb hN
  have hBs := hB.size
  replace hB := hB.trans (hb.mono hB.size)
  dsimp only [ext, Option.getD] at hF
  repeat with_reducible first | refine wp_seq ?_ | refine nThen ?_ | refine nBlk ?_ | refine wp_skip ?_ | refine wp_block ?_ | refine wp_exit ?_ | refine xThen ?_ | refine xHere ?_ | refine wp_ret ?_ | refine rThen ?_ | refine rBlk ?_
  rcases k with _ | i
  · refine cond_ty hF rfl (fun h => absurd (of_decide_eq_true h) (by omega)) fun _ => ?_
    rw [← hgo]
    repeat with_reducible first | refine wp_seq ?_ | refine nThen ?_ | refine nBlk ?_ | refine wp_skip ?_ | refine wp_block ?_ | refine wp_exit ?_ | refine xThen ?_ | refine xHere ?_ | refine wp_ret ?_ | refine rThen ?_ | refine rBlk ?_
    refine' reg_all hF ?_ mixed (by kernel_rfl) ?_
    rotate_left
    · repeat (first
          | exact Line.nil
          | ((first | refine' Line.cons rfl (.run rfl rfl ?_) ?_ | refine' Line.cons rfl (.yes rfl rfl rfl rfl ?_) ?_)
             any_goals (first | exact cMove rfl rfl | exact cAssign rfl rfl | exact cNot rfl rfl | exact cPickF rfl rfl rfl | exact cGeq rfl rfl rfl | exact cEql rfl rfl rfl | exact cNeq rfl rfl rfl | exact cExtract rfl rfl rfl)
             rotate_left))
    intro a w6 hF hb hN
    have hBs := hB.size
    replace hB := hB.trans (hb.mono hB.size)
    dsimp only [ext, Option.getD] at hF
    repeat with_reducible first | refine wp_seq ?_ | refine nThen ?_ | refine nBlk ?_ | refine wp_skip ?_ | refine wp_block ?_ | refine wp_exit ?_ | refine xThen ?_ | refine xHere ?_ | refine wp_ret ?_ | refine rThen ?_ | refine rBlk ?_
    refine ret2 hF rfl rfl rfl fun a b ha hb => ?_
    exact ⟨_, rfl, ⟨[a, b], rfl, ha, hb, trivial⟩, hB1.trans (hB.mono hB1.size)⟩
  refine cond_ty hF rfl (fun _ => ?_) fun h => absurd (of_decide_eq_false h) (by omega)
  rw [show ((i + 1 : Nat) : Int) - 1 = (i : Int) by omega] at hF
  repeat with_reducible first | refine wp_seq ?_ | refine nThen ?_ | refine nBlk ?_ | refine wp_skip ?_ | refine wp_block ?_ | refine wp_exit ?_ | refine xThen ?_ | refine xHere ?_ | refine wp_ret ?_ | refine rThen ?_ | refine rBlk ?_
  have hq2 := PA.below hp2 hB
  have hq3 := PB.below hp3 hB
  have m1 := tminus_ty sd sd (A.getD i []) (B.getD i [])
  have hg : goodN ((A.getD i []).length : Int) = true := by rw [hA i (by omega)]; exact g24
  have k1 := minOk_good (s := sd) hg ((hA i (by omega)).trans (hBn i (by omega)).symm)
  rw [minL_good k1, minS_good k1, minE_good k1] at m1
  have eD : tminus (A.getD i []) (B.getD i []) = difD A B i := rfl
  rw [eD] at m1
  have hAll := pall_ty sd (difD A B i) hsd
  have hgo' : difGo sd A B (i + 1) n = if resN sd (difD A B i) = 0 then difGo sd A B i (n + difC sd A B i) else min ((if n = 0 then 24 else n) * 2 ^ (i + 1)) 1024 := rfl
  have hC : difC sd A B i = (resP sd (difD A B i)).length + (resM sd (difD A B i)).length := rfl
  rw [hC] at hgo'
  rw [hgo'] at hgo
  clear eD k1 hg hgo' hC
  have hPl := resP_len (seed := sd) (L := difD A B i)
  have hQl := resM_len (seed := sd) (L := difD A B i)
  generalize difD A B i = D at *
  generalize resN sd D = en at *
  generalize resP sd D = P at *
  generalize resM sd D = M at *
  generalize resS sd D = rs at *
  generalize resL sd D = RL at *
  have hiA : i < A.length := by omega
  have hiB : i < B.length := by omega
  refine' region_st 15 13 (dq := 44) (sp := .tmp 8) (sy := .tmp 43) mixed (by kernel_rfl) (by kernel_rfl) hF rfl rfl rfl rfl rfl rfl (fun a v => ⟨put_far rfl a v, put_far rfl a v⟩) ?_ ?_
  rotate_left
  · simp only [List.take_succ_cons, List.take_zero]
    repeat (first
        | exact Line.nil
        | (refine' Line.cons rfl (.new rfl rfl (run_alloc_i infoT46) rfl) ?_; rotate_left)
        | ((first | refine' Line.cons rfl (.run rfl rfl ?_) ?_ | refine' Line.cons rfl (.yes rfl rfl rfl rfl ?_) ?_)
           any_goals (first | exact cMove rfl rfl | exact cAssign rfl rfl | exact cNot rfl rfl | exact cStraLA rfl (.l rfl hq2) | exact cStraLA rfl (.l rfl hq3) | exact cLoadTsA rfl (.t rfl) | exact cIdxTA (k := i) rfl (.t rfl) rfl hiA | exact cIdxTA (k := i) rfl (.t rfl) rfl hiB | exact cLoadTab46 rfl (.t rfl) | exact cCallR2 rfl (.t rfl) (.t rfl) m1 (tabE_olds _ _ _ _) | exact cExtT rfl rfl | exact cExtE rfl rfl | exact cPickF rfl rfl rfl | exact cGeq rfl rfl rfl | exact cEql rfl rfl rfl | exact cNeq rfl rfl rfl | exact cExtract rfl rfl rfl)
           rotate_left))
  intro a w7 hF hb hN
  have hBs := hB.size
  replace hB := hB.trans (hb.mono hB.size)
  simp only [List.take_succ_cons, List.take_zero, List.drop_succ_cons, List.drop_zero] at hF hN ⊢
  dsimp only [ext, Option.getD] at hF
  obtain ⟨z, ⟨g8, rfl, hg8, hb8⟩, hF⟩ := hF.open (s := 8) rfl
  obtain ⟨z, ⟨s43, rfl, S43, hs43, hS43⟩, hF⟩ := hF.open (s := 43) rfl
  have hg8w : w1.heap.size ≤ g8 := Nat.le_trans (hBs) hg8
  refine store_st (Δ := [(2, Ty.ex p2), (3, Ty.ex p3), (6, Ty.ex (.int .i64 (n : Int))), (7, Ty.ex (.int .i64 (i : Int))), (8, Ty.ex (.pointer (some ⟨g8, 0, none⟩))), (44, Ty.ex (.int .i64 0))]) hF rfl rfl rfl (hF.getEx (s := 43) rfl) hb8 rfl sizeT46 (sl_one hs43.sl _) (hF.keep [2, 3, 6, 7, 8, 44]) rfl ?_
  intro w8 hF hb8' hkx
  replace hs43 := hs43.keeps hkx (seg_far hs43 hb8 (by decide))
  replace hB := below_own hB hkx (by intro y hy; simp only [List.mem_singleton] at hy; omega)
  replace hb8 : Blk w8 g8 40 #[.int .u64 (sd : Int), s43] := hb8'
  replace hF := hF.as hF (s := 8) (σ := Ty.tabP 40 69 sd D) rfl (fun v hv => by
    have hv : v = .pointer (some ⟨g8, 0, none⟩) := hv
    subst hv
    exact ⟨s43, ⟨g8, 0, _, (0, 0), rfl, hb8, fun j u h => by simpa using h⟩, hs43.sl⟩)
  clear hb8' hkx hb8 hs43 hS43
  refine' tlOp hF rfl rfl rfl ?_ ?_
  rotate_left
  · first | exact cMove rfl rfl | exact cAssign rfl rfl | exact cPickF rfl rfl rfl | exact cNot rfl rfl | exact cGeq rfl rfl rfl | exact cEql rfl rfl rfl | exact cNeq rfl rfl rfl | exact cExtract rfl rfl rfl
  intro a w9 hF hb
  have hBs := hB.size
  replace hB := hB.trans (hb.mono hB.size)
  try (refine wpList_nil ?_)
  repeat with_reducible first | refine wp_seq ?_ | refine nThen ?_ | refine nBlk ?_ | refine wp_skip ?_ | refine wp_block ?_ | refine wp_exit ?_ | refine xThen ?_ | refine xHere ?_ | refine wp_ret ?_ | refine rThen ?_ | refine rBlk ?_
  refine wp_region_lit ?_
  refine' tlOp hF rfl rfl rfl ?_ ?_
  rotate_left
  · first | exact cMove rfl rfl | exact cLoadTab46 rfl (.t rfl) | exact cCall1 rfl rfl hAll
  intro a w10_0 hF hb
  replace hB := hB.trans (hb.mono hB.size)
  refine' tlOp hF rfl rfl rfl ?_ ?_
  rotate_left
  · first | exact cMove rfl rfl | exact cLoadTab46 rfl (.t rfl) | exact cCall1 rfl rfl hAll
  intro a w10_1 hF hb
  replace hB := hB.trans (hb.mono hB.size)
  refine' tlOp hF rfl rfl rfl ?_ ?_
  rotate_left
  · first | exact cMove rfl rfl | exact cLoadTab46 rfl (.t rfl) | exact cCall1 rfl rfl hAll
  intro a w10_2 hF hb
  replace hB := hB.trans (hb.mono hB.size)
  refine' tlOp hF rfl rfl rfl ?_ ?_
  rotate_left
  · exact cExtract rfl rfl rfl
  intro a w10_t hF hb
  replace hB := hB.trans (hb.mono hB.size)
  refine' tlOp hF rfl rfl rfl ?_ ?_
  rotate_left
  · exact cExtract rfl rfl rfl
  intro a w10_e hF hb
  replace hB := hB.trans (hb.mono hB.size)
  refine tlNewRes hF rfl rfl rfl (by decide) rfl rfl rfl rfl rfl fun a w10_n hF hb => ?_
  replace hB := hB.trans (hb.mono hB.size)
  refine' tlOp hF rfl rfl rfl ?_ ?_
  rotate_left
  · exact cAssign rfl rfl
  intro a w10 hF hb
  replace hB := hB.trans (hb.mono hB.size)
  try (refine wpList_nil ?_)
  repeat with_reducible first | refine wp_seq ?_ | refine nThen ?_ | refine nBlk ?_ | refine wp_skip ?_ | refine wp_block ?_ | refine wp_exit ?_ | refine xThen ?_ | refine xHere ?_ | refine wp_ret ?_ | refine rThen ?_ | refine rBlk ?_
  by_cases h0 : en = 0
  rotate_left
  · rw [if_neg h0] at hgo
    rw [← hgo]
    refine' reg_all hF ?_ mixed (by kernel_rfl) ?_
    rotate_left
    · repeat (first
          | exact Line.nil
          | ((first | refine' Line.cons rfl (.run rfl rfl ?_) ?_ | refine' Line.cons rfl (.yes rfl rfl rfl rfl ?_) ?_)
             any_goals (first | exact cMove rfl rfl | exact cAssign rfl rfl | exact cNot rfl rfl | exact OpOk.b (c := true) (cNeq rfl rfl rfl) (by rw [decide_eq_false h0]; rfl) | exact cPickF rfl rfl rfl | exact cGeq rfl rfl rfl | exact cEql rfl rfl rfl | exact cNeq rfl rfl rfl | exact cExtract rfl rfl rfl)
             rotate_left))
    intro a w11 hF hb hN
    have hBs := hB.size
    replace hB := hB.trans (hb.mono hB.size)
    dsimp only [ext, Option.getD] at hF
    repeat with_reducible first | refine wp_seq ?_ | refine nThen ?_ | refine nBlk ?_ | refine wp_skip ?_ | refine wp_block ?_ | refine wp_exit ?_ | refine xThen ?_ | refine xHere ?_ | refine wp_ret ?_ | refine rThen ?_ | refine rBlk ?_
    refine cond_t hF rfl ?_
    repeat with_reducible first | refine wp_seq ?_ | refine nThen ?_ | refine nBlk ?_ | refine wp_skip ?_ | refine wp_block ?_ | refine wp_exit ?_ | refine xThen ?_ | refine xHere ?_ | refine wp_ret ?_ | refine rThen ?_ | refine rBlk ?_
    have hpw : 2 ^ (i + 1) ≤ 2 ^ 10 := Nat.pow_le_pow_right (by decide) hk
    have hsh : (0 : Int) ≤ ((i : Int) + 1) ∧ ((i : Int) + 1).toNat ≤ IntKind.i64.bits := ⟨by omega, by show _ ≤ 64; omega⟩
    have hto : ((i : Int) + 1).toNat = i + 1 := by omega
    have hcast : ((2 : Int) ^ (i + 1)) = ((2 ^ (i + 1) : Nat) : Int) := by simp
    have hpw1 : 2 ^ (i + 1) ≤ 1024 := hpw
    have hsh2 : ∀ c : Nat, c ≤ 20500 → IntKind.i64.wrap ((c : Int) * 2 ^ ((i : Int) + 1).toNat) = ((c * 2 ^ (i + 1) : Nat) : Int) := fun c hc => by
      have hm : c * 2 ^ (i + 1) ≤ 20500 * 1024 := Nat.mul_le_mul hc hpw1
      rw [hto, hcast, ← Int.natCast_mul]
      exact IntWalk.i64_in _ (by omega)
    by_cases hn0 : n = 0
    · rw [if_pos hn0]
      refine' reg_all hF ?_ mixed (by kernel_rfl) ?_
      rotate_left
      · repeat (first
            | exact Line.nil
            | ((first | refine' Line.cons rfl (.run rfl rfl ?_) ?_ | refine' Line.cons rfl (.yes rfl rfl rfl rfl ?_) ?_)
               any_goals (first | exact cMove rfl rfl | exact cAssign rfl rfl | exact cNot rfl rfl | exact OpOk.b (c := true) (cEql rfl rfl rfl) (decide_eq_true (by omega)) | exact cPickF rfl rfl rfl | exact cGeq rfl rfl rfl | exact cEql rfl rfl rfl | exact cNeq rfl rfl rfl | exact cExtract rfl rfl rfl)
               rotate_left))
      intro a w12 hF hb hN
      have hBs := hB.size
      replace hB := hB.trans (hb.mono hB.size)
      dsimp only [ext, Option.getD] at hF
      repeat with_reducible first | refine wp_seq ?_ | refine nThen ?_ | refine nBlk ?_ | refine wp_skip ?_ | refine wp_block ?_ | refine wp_exit ?_ | refine xThen ?_ | refine xHere ?_ | refine wp_ret ?_ | refine rThen ?_ | refine rBlk ?_
      refine cond_t hF rfl ?_
      repeat with_reducible first | refine wp_seq ?_ | refine nThen ?_ | refine nBlk ?_ | refine wp_skip ?_ | refine wp_block ?_ | refine wp_exit ?_ | refine xThen ?_ | refine xHere ?_ | refine wp_ret ?_ | refine rThen ?_ | refine rBlk ?_
      refine' reg_all hF ?_ mixed (by kernel_rfl) ?_
      rotate_left
      · repeat (first
            | exact Line.nil
            | ((first | refine' Line.cons rfl (.run rfl rfl ?_) ?_ | refine' Line.cons rfl (.yes rfl rfl rfl rfl ?_) ?_)
               any_goals (first | exact cMove rfl rfl | exact cAssign rfl rfl | exact cNot rfl rfl | exact cPickF rfl rfl rfl | exact cGeq rfl rfl rfl | exact cEql rfl rfl rfl | exact cNeq rfl rfl rfl | exact cExtract rfl rfl rfl)
               rotate_left))
      intro a w13 hF hb hN
      have hBs := hB.size
      replace hB := hB.trans (hb.mono hB.size)
      dsimp only [ext, Option.getD] at hF
      repeat with_reducible first | refine wp_seq ?_ | refine nThen ?_ | refine nBlk ?_ | refine wp_skip ?_ | refine wp_block ?_ | refine wp_exit ?_ | refine xThen ?_ | refine xHere ?_ | refine wp_ret ?_ | refine rThen ?_ | refine rBlk ?_
      refine' reg_all hF ?_ mixed (by kernel_rfl) ?_
      rotate_left
      · repeat (first
            | exact Line.nil
            | ((first | refine' Line.cons rfl (.run rfl rfl ?_) ?_ | refine' Line.cons rfl (.yes rfl rfl rfl rfl ?_) ?_)
               any_goals (first | exact cMove rfl rfl | exact cAssign rfl rfl | exact cNot rfl rfl | exact cAdd (r := (i : Int) + 1) rfl rfl rfl (by omega) | exact cShl (r := ((24 * 2 ^ (i + 1) : Nat) : Int)) rfl rfl rfl hsh (hsh2 24 (by omega)) | exact cMinI rfl rfl | exact cPickF rfl rfl rfl | exact cGeq rfl rfl rfl | exact cEql rfl rfl rfl | exact cNeq rfl rfl rfl | exact cExtract rfl rfl rfl)
               rotate_left))
      intro a w14 hF hb hN
      have hBs := hB.size
      replace hB := hB.trans (hb.mono hB.size)
      dsimp only [ext, Option.getD] at hF
      repeat with_reducible first | refine wp_seq ?_ | refine nThen ?_ | refine nBlk ?_ | refine wp_skip ?_ | refine wp_block ?_ | refine wp_exit ?_ | refine xThen ?_ | refine xHere ?_ | refine wp_ret ?_ | refine rThen ?_ | refine rBlk ?_
      refine ret2 hF rfl rfl rfl fun a b ha hb => ?_
      exact ⟨_, rfl, ⟨[a, b], rfl, by rw [ha]; show _ = _; congr 1; omega, hb, trivial⟩, hB1.trans (hB.mono hB1.size)⟩
    · rw [if_neg hn0]
      refine' reg_all hF ?_ mixed (by kernel_rfl) ?_
      rotate_left
      · repeat (first
            | exact Line.nil
            | ((first | refine' Line.cons rfl (.run rfl rfl ?_) ?_ | refine' Line.cons rfl (.yes rfl rfl rfl rfl ?_) ?_)
               any_goals (first | exact cMove rfl rfl | exact cAssign rfl rfl | exact cNot rfl rfl | exact OpOk.b (c := false) (cEql rfl rfl rfl) (decide_eq_false (by omega)) | exact cPickF rfl rfl rfl | exact cGeq rfl rfl rfl | exact cEql rfl rfl rfl | exact cNeq rfl rfl rfl | exact cExtract rfl rfl rfl)
               rotate_left))
      intro a w12 hF hb hN
      have hBs := hB.size
      replace hB := hB.trans (hb.mono hB.size)
      dsimp only [ext, Option.getD] at hF
      repeat with_reducible first | refine wp_seq ?_ | refine nThen ?_ | refine nBlk ?_ | refine wp_skip ?_ | refine wp_block ?_ | refine wp_exit ?_ | refine xThen ?_ | refine xHere ?_ | refine wp_ret ?_ | refine rThen ?_ | refine rBlk ?_
      refine cond_f hF rfl ?_
      repeat with_reducible first | refine wp_seq ?_ | refine nThen ?_ | refine nBlk ?_ | refine wp_skip ?_ | refine wp_block ?_ | refine wp_exit ?_ | refine xThen ?_ | refine xHere ?_ | refine wp_ret ?_ | refine rThen ?_ | refine rBlk ?_
      refine' reg_all hF ?_ mixed (by kernel_rfl) ?_
      rotate_left
      · repeat (first
            | exact Line.nil
            | ((first | refine' Line.cons rfl (.run rfl rfl ?_) ?_ | refine' Line.cons rfl (.yes rfl rfl rfl rfl ?_) ?_)
               any_goals (first | exact cMove rfl rfl | exact cAssign rfl rfl | exact cNot rfl rfl | exact cAdd (r := (i : Int) + 1) rfl rfl rfl (by omega) | exact cShl (r := ((n * 2 ^ (i + 1) : Nat) : Int)) rfl rfl rfl hsh (hsh2 n (by omega)) | exact cMinI rfl rfl | exact cPickF rfl rfl rfl | exact cGeq rfl rfl rfl | exact cEql rfl rfl rfl | exact cNeq rfl rfl rfl | exact cExtract rfl rfl rfl)
               rotate_left))
      intro a w14 hF hb hN
      have hBs := hB.size
      replace hB := hB.trans (hb.mono hB.size)
      dsimp only [ext, Option.getD] at hF
      repeat with_reducible first | refine wp_seq ?_ | refine nThen ?_ | refine nBlk ?_ | refine wp_skip ?_ | refine wp_block ?_ | refine wp_exit ?_ | refine xThen ?_ | refine xHere ?_ | refine wp_ret ?_ | refine rThen ?_ | refine rBlk ?_
      refine ret2 hF rfl rfl rfl fun a b ha hb => ?_
      exact ⟨_, rfl, ⟨[a, b], rfl, by rw [ha]; show _ = _; congr 1; omega, hb, trivial⟩, hB1.trans (hB.mono hB1.size)⟩
  rw [if_pos h0] at hgo
  refine' reg_all hF ?_ mixed (by kernel_rfl) ?_
  rotate_left
  · repeat (first
        | exact Line.nil
        | ((first | refine' Line.cons rfl (.run rfl rfl ?_) ?_ | refine' Line.cons rfl (.yes rfl rfl rfl rfl ?_) ?_)
           any_goals (first | exact cMove rfl rfl | exact cAssign rfl rfl | exact cNot rfl rfl | exact OpOk.b (c := false) (cNeq rfl rfl rfl) (by rw [decide_eq_true h0]; rfl) | exact cPickF rfl rfl rfl | exact cGeq rfl rfl rfl | exact cEql rfl rfl rfl | exact cNeq rfl rfl rfl | exact cExtract rfl rfl rfl)
           rotate_left))
  intro a w11 hF hb hN
  have hBs := hB.size
  replace hB := hB.trans (hb.mono hB.size)
  dsimp only [ext, Option.getD] at hF
  repeat with_reducible first | refine wp_seq ?_ | refine nThen ?_ | refine nBlk ?_ | refine wp_skip ?_ | refine wp_block ?_ | refine wp_exit ?_ | refine xThen ?_ | refine xHere ?_ | refine wp_ret ?_ | refine rThen ?_ | refine rBlk ?_
  refine cond_f hF rfl ?_
  repeat with_reducible first | refine wp_seq ?_ | refine nThen ?_ | refine nBlk ?_ | refine wp_skip ?_ | refine wp_block ?_ | refine wp_exit ?_ | refine xThen ?_ | refine xHere ?_ | refine wp_ret ?_ | refine rThen ?_ | refine rBlk ?_
  refine' reg_all hF ?_ mixed (by kernel_rfl) ?_
  rotate_left
  · repeat (first
        | exact Line.nil
        | ((first | refine' Line.cons rfl (.run rfl rfl ?_) ?_ | refine' Line.cons rfl (.yes rfl rfl rfl rfl ?_) ?_)
           any_goals (first | exact cMove rfl rfl | exact cAssign rfl rfl | exact cNot rfl rfl | exact cSelP rfl (.t rfl) | exact cSelM rfl (.t rfl) | exact cLoadSel rfl rfl | exact cLenH rfl (.t rfl) (Ty.sl_isSl _ _ _) Tryz.underlying30 | exact cAdd (r := ((P.length + M.length : Nat) : Int)) rfl rfl rfl (by omega) | exact cAdd (r := ((n + (P.length + M.length) : Nat) : Int)) rfl rfl rfl (by omega) | exact cPickF rfl rfl rfl | exact cGeq rfl rfl rfl | exact cEql rfl rfl rfl | exact cNeq rfl rfl rfl | exact cExtract rfl rfl rfl)
           rotate_left))
  intro a w12 hF hb hN
  have hBs := hB.size
  replace hB := hB.trans (hb.mono hB.size)
  dsimp only [ext, Option.getD] at hF
  repeat with_reducible first | refine wp_seq ?_ | refine nThen ?_ | refine nBlk ?_ | refine wp_skip ?_ | refine wp_block ?_ | refine wp_exit ?_ | refine xThen ?_ | refine xHere ?_ | refine wp_ret ?_ | refine rThen ?_ | refine rBlk ?_
  refine' reg_all hF ?_ mixed (by kernel_rfl) ?_
  rotate_left
  · repeat (first
        | exact Line.nil
        | ((first | refine' Line.cons rfl (.run rfl rfl ?_) ?_ | refine' Line.cons rfl (.yes rfl rfl rfl rfl ?_) ?_)
           any_goals (first | exact cMove rfl rfl | exact cAssign rfl rfl | exact cNot rfl rfl | exact cSub (r := (i : Int) - 1) rfl rfl rfl (by omega) | exact cPickF rfl rfl rfl | exact cGeq rfl rfl rfl | exact cEql rfl rfl rfl | exact cNeq rfl rfl rfl | exact cExtract rfl rfl rfl)
           rotate_left))
  intro a w13 hF hb hN
  have hBs := hB.size
  replace hB := hB.trans (hb.mono hB.size)
  dsimp only [ext, Option.getD] at hF
  repeat with_reducible first | refine wp_seq ?_ | refine nThen ?_ | refine nBlk ?_ | refine wp_skip ?_ | refine wp_block ?_ | refine wp_exit ?_ | refine xThen ?_ | refine xHere ?_ | refine wp_ret ?_ | refine rThen ?_ | refine rBlk ?_
  exact ⟨i, by omega, n + (P.length + M.length), by omega, by omega, hgo, hF.keep [2, 3, 6, 7], hB⟩
end Go.Proofs.YtmefpnklgfhggaaGreatDoor

/- Strata by types: strata.Of. -/
namespace Go.Proofs.YtmefpnklgfhggaaGreatDoor
open Go.RowKit

abbrev LvT : TypeId := 103
theorem made_ones {z : Value} (hz : z.cells = #[z]) (n : Nat) : (madeCells z.cells (n * 1)).toList = List.replicate n z := by
  rw [hz, Nat.mul_one]
  simp only [madeCells]
  refine List.eq_replicate_iff.2 ⟨by simp, fun b hb => ?_⟩
  simp only [Array.toList_map, Array.toList_range, List.mem_map] at hb
  obtain ⟨x, _, rfl⟩ := hb
  show #[z][x % 1]! = z
  rw [Nat.mod_one]; rfl
/-- The cells of ten levels. -/
def lvCells (u : Nat → Value) : List Value := (List.range 10).map u
def upd {α : Type} (u : Nat → α) (i : Nat) (v : α) : Nat → α := fun j => if j = i then v else u j
theorem upd_eq {α : Type} (u : Nat → α) (i : Nat) (v : α) : upd u i v i = v := if_pos rfl
theorem upd_ne {α : Type} (u : Nat → α) {i j : Nat} (v : α) (h : j ≠ i) : upd u i v j = u j := if_neg h
theorem lvCells_set (u : Nat → Value) {i : Nat} (h : i < 10) (v : Value) : splice (lvCells u).toArray i [v] = (lvCells (upd u i v)).toArray := by
  apply Array.ext_getElem?
  intro j
  unfold lvCells
  by_cases hj : j = i
  · subst hj
    simp [splice, upd, h]
  · have hj' : ¬ i = j := fun e => hj e.symm
    by_cases h10 : j < 10 <;> simp [splice, upd, hj, hj', h10]
theorem infoLv : (Tryz.prog.info? 30).map (fun i => (i.zero, i.size, i.bytes)) = some (some nilS, 1, 24) := by kernel_rfl
set_option maxRecDepth 100000 in
theorem run_makeLv (w : World) : (Instr.makeSlice LvT (.int .i64 10) (.int .i64 10)).run Tryz.prog w = .ok (.slice (some ⟨w.heap.size, 0, none⟩) 10 10) (w.alloc (.cells (lvCells fun _ => nilS).toArray 30)) := by
  obtain ⟨i, h1, h2, h3, h4⟩ := info_parts infoLv
  have h := run_make (P := Tryz.prog) w LvT 30 i _ Tryz.underlying103 h1 h2 .i64 .i64 10 10 (by omega) (Int.le_refl _) (by rw [h4]; decide) (by omega)
  rw [show (10 : Int).toNat = 10 from rfl, h3] at h
  rw [h]
  congr 3
  exact Array.toList_inj.1 (by rw [made_ones rfl]; rfl)
/-- Ten levels of nothing. -/
def Ty.lv0 (w0 : World) : Ty := ⟨fun w v => ∃ g, v = .slice (some ⟨g, 0, none⟩) 10 10 ∧ w0.heap.size ≤ g ∧ Blk w g 30 (lvCells fun _ => nilS).toArray, fun t => t == 30, fun {w w' v G} ⟨g, h1, h2, h3⟩ k hA => ⟨g, h1, h2, h3.keeps k fun hm => by
  obtain ⟨cs', t, fr', k2, k3⟩ := hA g hm h3.lt
  have hb := h3
  unfold Blk at hb
  rw [hb] at k2
  simp only [Option.some.injEq, Obj.cells.injEq] at k2
  rw [← k2.2.1] at k3
  simp at k3⟩⟩
theorem cMakeLv {w0 : World} {Γ : Ctx} {o : Oper} (ho : o.op = .makeSlice LvT (.const (.int .i64 10)) (.const (.int .i64 10))) : OpOk Tryz.prog w0 Γ o (Ty.lv0 w0) :=
  .new fun a w hb _ => ⟨_, _, ⟨w.heap.size, rfl, hb.size, Blk.new w _ _⟩, ((Keeps.refl [] w).alloc _).below, by
    have hc : a.eval (.const (.int .i64 10)) = .int .i64 10 := rfl
    unfold execOp
    simp only [ho, hc]
    rw [Sem.run_bind, run_makeLv w]
    rfl⟩
/-- The levels' memory. -/
structure LvMem (w : World) (g : Nat) (u : Nat → Value) (S : Nat → List Nat) (D : List Sm) : Prop where
  blk : Blk w g 30 (lvCells u).toArray
  seg : ∀ i, i < 10 → Seg w 28 32 (u i) (lvl D i).length (flat (lvl D i)) (S i)
  apart : ∀ i j, i < 10 → j < 10 → i ≠ j → ∀ y ∈ S i, y ∉ S j
theorem LvMem.below {w w' : World} {g : Nat} {u : Nat → Value} {S : Nat → List Nat} {D : List Sm} (h : LvMem w g u S D) (hb : Below w.heap.size w w') : LvMem w' g u S D := ⟨h.blk.below hb, fun i hi => (h.seg i hi).below hb, h.apart⟩
theorem LvMem.nil {w : World} {g : Nat} (h : Blk w g 30 (lvCells fun _ => nilS).toArray) : LvMem w g (fun _ => nilS) (fun _ => []) [] := ⟨h, fun i _ => Seg.nil w 28 32, fun _ _ _ _ _ y hy => by cases hy⟩
theorem LvMem.at_ {w : World} {g : Nat} {u : Nat → Value} {S : Nat → List Nat} {D : List Sm} (h : LvMem w g u S D) {i : Nat} (hi : i < 10) : (Ty.at_ 30 [u i]).p w (.pointer (some ⟨g, 0 + i * 1, none⟩)) := by
  refine ⟨g, 0 + i * 1, _, (0, 0), rfl, h.blk, fun j v hj => ?_⟩
  cases j with
  | succ j => simp at hj
  | zero =>
    have hj : some (u i) = some v := hj
    rw [← hj]
    simp [lvCells, hi]
theorem lvl_snoc (D : List Sm) (x : Sm) (j : Nat) : lvl (D ++ [x]) j = if levelS x = j then lvl D j ++ [x] else lvl D j := by
  unfold lvl
  rw [List.filter_append]
  by_cases h : levelS x = j
  · rw [if_pos h]; simp [h]
  · rw [if_neg h]; simp [h]
theorem LvMem.next {w w' w'' : World} {g i : Nat} {u : Nat → Value} {S : Nat → List Nat} {D : List Sm} {x : Sm} {v : Value} {S' : List Nat} (h : LvMem w g u S D) (hi : i < 10) (hx : levelS x = i) (k : Keeps (S i) w w') (hs : Seg w' 28 32 v ((lvl D i).length + 1) (flat (lvl D i) ++ flat [x]) S') (hS : ∀ b ∈ S', b ∈ S i ∨ w.heap.size ≤ b) (hb : Blk w'' g 30 (lvCells (upd u i v)).toArray) (k2 : Keeps [g] w' w'') : LvMem w'' g (upd u i v) (upd S i S') (D ++ [x]) := by
  have hgi : g ∉ S i := blk_apart (h.seg i hi) h.blk (by decide)
  have hb1 := h.blk.keeps k hgi
  refine ⟨hb, fun j hj => ?_, fun j l hj hl hne y hy => ?_⟩
  · rw [lvl_snoc]
    by_cases hji : j = i
    · subst hji
      rw [if_pos hx, upd_eq, upd_eq, flat_append, List.length_append]
      exact hs.keeps k2 (seg_far hs hb1 (by decide))
    · rw [if_neg (by rw [hx]; exact fun e => hji e.symm), upd_ne _ _ hji, upd_ne _ _ hji]
      have h1 := (h.seg j hj).keeps k (h.apart j i hj hi hji)
      exact h1.keeps k2 (seg_far h1 hb1 (by decide))
  · by_cases hji : j = i
    · subst hji
      rw [upd_eq] at hy
      rw [upd_ne _ _ (fun e => hne e.symm)]
      rcases hS y hy with h1 | h1
      · exact h.apart j l hj hl hne y h1
      · intro hm; have := (h.seg l hl).lt y hm; omega
    · rw [upd_ne _ _ hji] at hy
      by_cases hli : l = i
      · subst hli
        rw [upd_eq]
        intro hm
        rcases hS y hm with h1 | h1
        · exact h.apart j l hj hl hne y hy h1
        · have := (h.seg j hj).lt y hy; omega
      · rw [upd_ne _ _ hli]
        exact h.apart j l hj hl hne y hy
theorem buildSt1 (n : Int) (w : World) : (Instr.build StT #[(0, .int .u64 n)]).run Tryz.prog w = .ok (.agg #[.int .u64 n, nilS]) w := by
  have hz : (zeroValue StT).run Tryz.prog w = .ok (.agg #[.int .u64 0, nilS]) w := by kernel_rfl
  have hu := run_underlying Tryz.underlying45 w
  have h1 := Tryz.sizeOf31 w
  simp only [Instr.build, Sem.run_bind, hz, Result.andThen_ok, hu]
  simp [h1, Instr.fill, Value.cells]
section
variable {w0 : World} {Γ : Ctx} {o : Oper} {x : Operand} {g : Nat}
theorem cStP (ho : o.op = .fieldAddr StT x 1) (hx : OpT Γ x (Ty.ex (.pointer (some ⟨g, 0, none⟩)))) : OpOk Tryz.prog w0 Γ o (Ty.ex (.pointer (some ⟨g, 1, none⟩))) :=
  .val fun a w hb hs => by
    obtain ⟨v, h1, h2⟩ := hs x _ (by simp [ho, Op.operands]) hx
    have h2 : v = .pointer (some ⟨g, 0, none⟩) := h2
    have hr := run_fieldAt (P := Tryz.prog) (i := 1) Tryz.underlying45 rfl sizeTLA g 0 w
    refine ⟨_, rfl, ?_⟩
    unfold execOp
    simp [ho, h1, h2, hr]
theorem st_at {w : World} {u s : Value} (h : Blk w g StT #[u, s]) : (Ty.at_ StT [s]).p w (.pointer (some ⟨g, 1, none⟩)) := ⟨g, 1, _, (0, 0), rfl, h, fun j v hj => by
  cases j with
  | zero => simpa using hj
  | succ j => simp at hj⟩
end
theorem infoTab : (Tryz.prog.info? 40).map (fun i => (i.zero, i.size, i.bytes)) = some (some (.agg zeroT), 2, 32) := infoT46
theorem flatT_one1 {w : World} {e : TypeId} {n : Nat} {xs : List Value} {s : Value} (h : SlP w e s n xs) (sd : Nat) : ∀ v ∈ flatT sd [s], v.oneCell' = true := by
  obtain ⟨A, c, rfl, _⟩ := h
  intro v hv
  simp [flatT] at hv
  rcases hv with rfl | rfl <;> rfl
theorem seg_off {w : World} {e : TypeId} {sz n : Nat} {v : Value} {xs : List Value} {S G : List Nat} {f : TypeId → Bool} (h : Seg w e sz v n xs S) (hA : Apart w G f) (hf : f e = true) : ∀ y ∈ S, y ∉ G := fun y hy hm => by
  rcases h.2 with ⟨_, _, rfl⟩ | ⟨g, off, cap, cs, _, rfl, hb, _⟩
  · cases hy
  · simp only [List.mem_singleton] at hy
    subst hy
    obtain ⟨cs', t, fr, h3, h4⟩ := hA y hm hb.lt
    have hb := hb
    unfold Blk at hb
    rw [hb] at h3
    simp only [Option.some.injEq, Obj.cells.injEq] at h3
    rw [← h3.2.1, hf] at h4
    cases h4
/-- As Slc, each of them one's own, none of them another's. -/
def Slw (lo : Nat) (w : World) (e : TypeId) (ss : List Value) (Ls : List (List Cl)) (S : Nat → List Nat) : Prop := ss.length = Ls.length ∧ (∀ k, k < Ls.length → Seg w e 65 (ss.getD k nilS) (Ls.getD k []).length (flatC (Ls.getD k [])) (S k) ∧ ∀ y ∈ S k, lo ≤ y) ∧ ∀ j k, j < k → k < Ls.length → ∀ y ∈ S j, y ∉ S k
theorem Slw.nil (lo : Nat) (w : World) (e : TypeId) : Slw lo w e [] [] fun _ => [] := ⟨rfl, fun k h => by simp at h, fun _ k _ h => by simp at h⟩
theorem Slw.slc {lo : Nat} {w : World} {e : TypeId} {ss : List Value} {Ls : List (List Cl)} {S : Nat → List Nat} (h : Slw lo w e ss Ls S) : Slc w e ss Ls := ⟨h.1, fun k hk => (h.2.1 k hk).1.sl⟩
theorem Slw.keeps {lo : Nat} {w w' : World} {e : TypeId} {ss : List Value} {Ls : List (List Cl)} {S : Nat → List Nat} {G : List Nat} (h : Slw lo w e ss Ls S) (k : Keeps G w w') (hG : ∀ j, j < Ls.length → ∀ y ∈ S j, y ∉ G) : Slw lo w' e ss Ls S := ⟨h.1, fun j hj => ⟨(h.2.1 j hj).1.keeps k (hG j hj), (h.2.1 j hj).2⟩, h.2.2⟩
theorem Slw.below {lo : Nat} {w w' : World} {e : TypeId} {ss : List Value} {Ls : List (List Cl)} {S : Nat → List Nat} (h : Slw lo w e ss Ls S) (hB : Below w.heap.size w w') : Slw lo w' e ss Ls S := ⟨h.1, fun j hj => ⟨(h.2.1 j hj).1.below hB, (h.2.1 j hj).2⟩, h.2.2⟩
theorem Slw.far {lo : Nat} {w w' : World} {e t : TypeId} {g : Nat} {cs : Array Value} {ss : List Value} {Ls : List (List Cl)} {S : Nat → List Nat} (h : Slw lo w e ss Ls S) (k : Keeps [g] w w') (hb : Blk w g t cs) (hne : (t == e) = false) : Slw lo w' e ss Ls S := h.keeps k fun j hj => seg_far (h.2.1 j hj).1 hb hne
theorem Slw.keepSeg {lo : Nat} {w w' : World} {e t : TypeId} {sz n : Nat} {v : Value} {xs : List Value} {G : List Nat} {ss : List Value} {Ls : List (List Cl)} {S : Nat → List Nat} (h : Slw lo w e ss Ls S) (k : Keeps G w w') (hs : Seg w t sz v n xs G) (hne : (t == e) = false) : Slw lo w' e ss Ls S := h.keeps k fun j hj y hy hm => by
  rcases hs.2 with ⟨_, _, rfl⟩ | ⟨g, off, cap, cs, _, rfl, hb, _⟩
  · cases hm
  · exact seg_far (h.2.1 j hj).1 hb hne y hy hm
theorem seg_keepSeg {w w' : World} {e t : TypeId} {sz n sz2 n2 : Nat} {v v2 : Value} {xs xs2 : List Value} {S G : List Nat} (h : Seg w e sz v n xs S) (k : Keeps G w w') (hs : Seg w t sz2 v2 n2 xs2 G) (hne : (t == e) = false) : Seg w' e sz v n xs S := h.keeps k fun y hy hm => by
  rcases hs.2 with ⟨_, _, rfl⟩ | ⟨g, off, cap, cs, _, rfl, hb, _⟩
  · cases hm
  · exact seg_far h hb hne y hy hm
theorem Slw.snoc {lo : Nat} {w : World} {e : TypeId} {ss : List Value} {Ls : List (List Cl)} {S : Nat → List Nat} (h : Slw lo w e ss Ls S) {s : Value} {L : List Cl} {S1 : List Nat} (hs : Seg w e 65 s L.length (flatC L) S1) (h1 : ∀ y ∈ S1, lo ≤ y) (hap : ∀ j, j < Ls.length → ∀ y ∈ S j, y ∉ S1) : Slw lo w e (ss ++ [s]) (Ls ++ [L]) (upd S Ls.length S1) := by
  refine ⟨by rw [List.length_append, List.length_append, h.1]; rfl, fun k hk => ?_, fun j k hjk hk => ?_⟩
  · rw [List.length_append, List.length_singleton] at hk
    by_cases hl : k < Ls.length
    · rw [show (ss ++ [s]).getD k nilS = ss.getD k nilS by simp [List.getD, List.getElem?_append_left (h.1 ▸ hl)], show (Ls ++ [L]).getD k [] = Ls.getD k [] by simp [List.getD, List.getElem?_append_left hl], upd_ne _ _ (by omega)]
      exact h.2.1 k hl
    · have hk : k = Ls.length := by omega
      have e1 : (ss ++ [s]).getD k nilS = s := by rw [hk, ← h.1]; simp [List.getD]
      have e2 : (Ls ++ [L]).getD k [] = L := by rw [hk]; simp [List.getD]
      rw [e1, e2, hk, upd_eq]
      exact ⟨hs, h1⟩
  · rw [List.length_append, List.length_singleton] at hk
    rw [upd_ne _ _ (show j ≠ Ls.length by omega)]
    by_cases hl : k < Ls.length
    · rw [upd_ne _ _ (by omega)]
      exact h.2.2 j k hjk hl
    · have hk : k = Ls.length := by omega
      rw [hk, upd_eq]
      exact hap j (by omega)
/-- A strata, all of it one's own. -/
def Ty.straO (lo : Nat) (T e : TypeId) (sd : Nat) (Ls : List (List Cl)) : Ty := ⟨fun w v => ∃ s ss S So, v = .agg #[.int .u64 (sd : Int), s] ∧ Slw lo w e ss Ls S ∧ Seg w T 2 s Ls.length (flatT sd ss) So ∧ ∀ y ∈ So, lo ≤ y, fun t => t == e || t == T, fun {w w' v G} ⟨s, ss, S, So, h1, h2, h3, h4⟩ k hA => ⟨s, ss, S, So, h1, h2.keeps k (fun j hj => seg_off (h2.2.1 j hj).1 hA (by simp)), h3.keeps k (seg_off h3 hA (by simp)), h4⟩⟩
theorem straO_stra {lo : Nat} {T e : TypeId} {sd : Nat} {Ls : List (List Cl)} : ∀ w v, (Ty.straO lo T e sd Ls).p w v → (Ty.stra T e sd Ls).p w v := fun _ _ ⟨s, ss, _, _, h1, h2, h3, _⟩ => ⟨s, h1, ss, h2.slc, h3.sl⟩
theorem take_range {α : Type} (f : Nat → α) : ∀ j, (List.range (j + 1)).map f = (List.range j).map f ++ [f j] := fun j => by rw [List.range_succ, List.map_append]; rfl
theorem lvl_take_snoc (X : List Sm) {k : Nat} (h : k < X.length) : X.take (k + 1) = X.take k ++ [X.getD k default] := by
  rw [List.take_succ_eq_append_getElem h]
  simp [List.getD, List.getElem?_eq_getElem h]

set_option maxRecDepth 100000 in
set_option maxHeartbeats 4000000 in
theorem stofO_any (lo : Nat) (seed : Nat) (D : List Sm) (hD : D.length ≤ 1000000) (hsd : seed < 18446744073709551616) (w : World) (hlo : lo ≤ w.heap.size) (v u : Value) (hv : v = .int .u64 (seed : Int)) (hu : (Ty.sums 28 D).p w u) (hT : TabOk w) : Ret Tryz.prog 15 #[v, u] w (Ty.straO lo 40 69 seed (stL seed D)) := by
  subst hv
  have hO := of_ty D hD
  have hXl := setL_len D
  have eL : stL seed D = (List.range 10).map fun i => ofL seed 24 (lvl (setL D) i) := rfl
  rw [eL]
  clear eL
  generalize setL D = X at *
  have heL : Enters Tryz.prog 44 := fun args w => by kernel_rfl
  refine enter_ty 57 [Ty.ex (.int .u64 (seed : Int)), Ty.ex u] Tryz.func15 rfl (by kernel_rfl) ⟨rfl, rfl, trivial⟩ fun a hF => ?_
  have hB := Below.refl w.heap.size w
  let TU := Ty.sums 28 D
  repeat with_reducible refine wp_seq ?_
  refine' reg_all hF ?_ mixed (by kernel_rfl) ?_
  rotate_left
  · repeat (first
        | exact Line.nil
        | (refine' Line.cons rfl (.new rfl rfl (run_alloc_i infoStA) rfl) ?_; rotate_left)
        | ((first | refine' Line.cons rfl (.run rfl rfl ?_) ?_ | refine' Line.cons rfl (.yes rfl rfl rfl rfl ?_) ?_)
           any_goals fail
           rotate_left))
  intro a w1 hF hb hN
  have hBs := hB.size
  replace hB := hB.trans (hb.mono hB.size)
  dsimp only [ext, Option.getD] at hF
  repeat with_reducible first | refine wp_seq ?_ | refine nThen ?_
  obtain ⟨z, ⟨g4, rfl, hg4, hb4⟩, hF⟩ := hF.open (s := 4) rfl
  have hg4 : w.heap.size ≤ g4 := hg4
  have hw1 := hB.size
  refine' reg_all hF ?_ mixed (by kernel_rfl) ?_
  rotate_left
  · repeat (first | exact Line.nil | ((refine' Line.cons rfl (.run rfl rfl ?_) ?_); (any_goals (first | exact cAssign rfl rfl | exact cMakeLv rfl)); rotate_left))
  intro a w2 hF hb hN
  have hBs := hB.size
  replace hB := hB.trans (hb.mono hB.size)
  dsimp only [ext, Option.getD] at hF
  repeat with_reducible first | refine wp_seq ?_ | refine nThen ?_
  replace hb4 := hb4.below hb
  obtain ⟨z, ⟨gl, rfl, hgl, hbl⟩, hF⟩ := hF.open (s := 5) rfl
  have hgl : w.heap.size ≤ gl := Nat.le_trans hw1 hgl
  have hw2 := hB.size
  refine' reg_all hF ?_ mixed (by kernel_rfl) ?_
  rotate_left
  · repeat (first | exact Line.nil | ((refine' Line.cons rfl (.run rfl rfl ?_) ?_); (any_goals (first | exact cMove rfl rfl | exact cCallS1 rfl (.l rfl (TU.below hu hB)) hO | exact cLen rfl rfl (Ty.seg_isSl _ _ _ _ _) Tryz.underlying30)); rotate_left))
  intro a w3 hF hb hN
  have hBs := hB.size
  replace hB := hB.trans (hb.mono hB.size)
  dsimp only [ext, Option.getD] at hF
  repeat with_reducible first | refine nThen ?_ | refine wp_block ?_
  replace hb4 := hb4.below hb
  have hL := (LvMem.nil hbl).below hb
  obtain ⟨vx, ⟨Sx, hvx, _⟩, hF⟩ := hF.open (s := 16) rfl
  refine wp_mono (Q := fun e a wr => e = .exit 0 ∧ ∃ (uv : Nat → Value) (S : Nat → List Nat), Fr 57 [(0, Ty.ex (.int .u64 (seed : Int))), (4, Ty.ex (.pointer (some ⟨g4, 0, none⟩))), (5, Ty.ex (.slice (some ⟨gl, 0, none⟩) 10 10))] a wr ∧ Below w.heap.size w wr ∧ Blk wr g4 StT #[.int .u64 0, nilS] ∧ LvMem wr gl uv S X) ?_ ?_
  · refine loop_ty (fun m a wr => ∃ (k : Nat) (uv : Nat → Value) (S : Nat → List Nat), k + m = X.length ∧ Fr 57 [(0, Ty.ex (.int .u64 (seed : Int))), (4, Ty.ex (.pointer (some ⟨g4, 0, none⟩))), (5, Ty.ex (.slice (some ⟨gl, 0, none⟩) 10 10)), (16, Ty.ex vx), (17, Ty.ex (.int .i64 (X.length : Int))), (18, Ty.ex (.int .i64 (k : Int)))] a wr ∧ Below w.heap.size w wr ∧ Blk wr g4 StT #[.int .u64 0, nilS] ∧ LvMem wr gl uv S (X.take k) ∧ (∀ i, i < 10 → ∀ y ∈ S i, w.heap.size ≤ y) ∧ Seg wr 28 32 vx X.length (flat X) Sx ∧ ∀ i, i < 10 → ∀ y ∈ S i, y ∉ Sx) X.length ?_ ?_
    · exact ⟨0, _, _, by omega, hF.keep [0, 4, 5, 16, 17, 18], hB, hb4, hL, (fun _ _ y hy => by cases hy), hvx, fun _ _ y hy => by cases hy⟩
    clear hF hB hb4 hL hvx hbl
    rintro m a wr ⟨k, uv, S, hk, hF, hB, hb4, hL, hS, hvx, hSx⟩
    repeat with_reducible refine wp_seq ?_
    refine' reg_all hF ?_ mixed (by kernel_rfl) ?_
    rotate_left
    · repeat (first | exact Line.nil | ((refine' Line.cons rfl (.run rfl rfl ?_) ?_); (any_goals exact cLss rfl rfl rfl); rotate_left))
    intro a w4 hF hb hN
    have hBs := hB.size
    replace hB := hB.trans (hb.mono hB.size)
    dsimp only [ext, Option.getD] at hF
    repeat with_reducible first | refine wp_seq ?_ | refine nThen ?_
    replace hb4 := hb4.below hb
    replace hL := hL.below hb
    replace hvx := hvx.below hb
    refine cond_ty hF rfl (fun hlt => ?_) (fun hge => ?_)
    rotate_left
    · have hge : ¬ k < X.length := by have := of_decide_eq_false hge; omega
      have hkX : k = X.length := by omega
      rw [hkX, List.take_of_length_le (Nat.le_refl _)] at hL
      repeat with_reducible first | refine wp_exit ?_ | refine xThen ?_
      exact ⟨rfl, uv, S, hF.keep [0, 4, 5], hB, hb4, hL⟩
    have hlt : k < X.length := by have := of_decide_eq_true hlt; omega
    have hts := lvl_take_snoc X hlt
    have hlvk := lvl_len (X.take k)
    have htk : (X.take k).length ≤ X.length := by rw [List.length_take]; omega
    have hi10 := level_lt (X.getD k default)
    have hlvr := level_ret (X.getD k default)
    obtain ⟨x, hx⟩ : ∃ x, X.getD k default = x := ⟨_, rfl⟩
    rw [hx] at hts hi10 hlvr
    have hw4 := hB.size
    repeat with_reducible first | refine wp_seq ?_ | refine nThen ?_ | refine wp_skip ?_ | refine wp_block ?_
    refine' region_ty 3 mixed (by kernel_rfl) hF ?_ ?_
    rotate_left
    · simp only [List.take_succ_cons, List.take_zero]
      repeat (first
          | exact Line.nil
          | (refine' Line.cons rfl (.new rfl rfl (run_alloc_i infoS) rfl) ?_; rotate_left)
          | ((refine' Line.cons rfl (.run rfl rfl ?_) ?_)
             any_goals (first | exact cIndexSum (k := k) rfl (.l rfl hvx.sl) rfl Tryz.underlying30 sizeS hlt | exact cLoadSum rfl (.t rfl) Tryz.underlying28 sizeS)
             rotate_left))
    intro a w5 hF hb hN
    have hBs := hB.size
    replace hB := hB.trans (hb.mono hB.size)
    simp only [List.take_succ_cons, List.take_zero, List.drop_succ_cons, List.drop_zero] at hF hN ⊢
    dsimp only [ext, Option.getD] at hF
    rw [hx] at hF
    obtain ⟨z, ⟨g7, rfl, hg7, hb7⟩, hF⟩ := hF.open (s := 7) rfl
    have hg7 : w4.heap.size ≤ g7 := hg7
    refine tlStoreV (Δ := [(0, Ty.ex (.int .u64 (seed : Int))), (4, Ty.ex (.pointer (some ⟨g4, 0, none⟩))), (5, Ty.ex (.slice (some ⟨gl, 0, none⟩) 10 10)), (7, Ty.ex (.pointer (some ⟨g7, 0, none⟩))), (16, Ty.ex vx), (17, Ty.ex (.int .i64 (X.length : Int))), (18, Ty.ex (.int .i64 (k : Int)))]) hF rfl rfl rfl rfl (hF.getEx (s := 21) rfl) hb7 (sumSz _) (by show _ = some (u8s _).size; rw [Sm.size]; exact sizeS) (u8s_one _) (hF.keep [0, 4, 5, 7, 16, 17, 18]) rfl ?_
    intro w6 hF hb7' hkx
    refine wpList_nil ?_
    have hB46 : Below w4.heap.size w4 w6 := below_own hb hkx (by intro y hy; simp only [List.mem_singleton] at hy; omega)
    replace hB := below_own hB hkx (by intro y hy; simp only [List.mem_singleton] at hy; omega)
    replace hb4 := hb4.below hB46
    replace hL := hL.below hB46
    replace hvx := hvx.below hB46
    replace hb7 : Blk w6 g7 28 (u8s x.l) := hb7'
    clear hb7' hkx hB46
    have hT6 := hT.below hB
    have h5 := at5 hb7
    repeat with_reducible first | refine wp_seq ?_ | refine nThen ?_
    refine' reg_all hF ?_ mixed (by kernel_rfl) ?_
    rotate_left
    · repeat (first | exact Line.nil | ((refine' Line.cons rfl (.run rfl rfl ?_) ?_); (any_goals (first | exact cAssign rfl rfl | exact cLoadSum rfl (.l rfl h5) Tryz.underlying28 sizeS | exact cCallX1 rfl rfl heL (fun W hb => hlvr W (hT6.below hb)))); rotate_left))
    intro a w7 hF hb hN
    have hBs := hB.size
    replace hB := hB.trans (hb.mono hB.size)
    dsimp only [ext, Option.getD] at hF
    repeat with_reducible refine nThen ?_
    replace hb4 := hb4.below hb
    replace hL := hL.below hb
    replace hvx := hvx.below hb
    replace hb7 := hb7.below hb
    clear h5 hT6 hlvr
    obtain ⟨i, hi⟩ : ∃ i, levelS x = i := ⟨_, rfl⟩
    rw [hi] at hF hi10
    have h5 := at5 hb7
    have hat := hL.at_ hi10
    have hseg := hL.seg i hi10
    have hlvi := hlvk i
    have hw7 := hB.size
    refine' region_ev 9 8 [2, 3, 4, 5, 6, 7, 8] (dp := 32) (fun v' w' => Keeps (S i) w7 w' ∧ ∃ S', Seg w' 28 32 v' ((lvl (X.take k) i).length + 1) (flat (lvl (X.take k) i) ++ flat [x]) S' ∧ ∀ b ∈ S', b ∈ S i ∨ w7.heap.size ≤ b) mixed (by kernel_rfl) rfl hF ?_ ?_
    rotate_left
    · simp only [List.take_succ_cons, List.take_zero]
      refine' LineE.float rfl rfl ?_ ?_
      any_goals exact fMove rfl rfl rfl
      rotate_left
      refine' LineE.float rfl rfl ?_ ?_
      any_goals exact fMove rfl rfl rfl
      rotate_left
      refine' LineE.cons rfl rfl rfl (.run rfl rfl ?_) ?_
      any_goals exact cMove rfl rfl
      rotate_left
      refine' LineE.cons rfl rfl rfl (.run rfl rfl ?_) ?_
      any_goals exact cMove rfl rfl
      rotate_left
      refine' LineE.cons rfl rfl rfl (.run rfl rfl ?_) ?_
      any_goals exact cIndexEx (k := i) (sz := 1) rfl rfl rfl Tryz.underlying103 sizeSL1 hi10
      rotate_left
      refine' LineE.cons rfl rfl rfl (.run rfl rfl ?_) ?_
      any_goals exact cLoad1 (u := uv i) rfl (.l rfl hat) (pts_at _ _) Tryz.underlying30 rfl
      rotate_left
      refine' LineE.cons rfl rfl rfl (.run rfl rfl ?_) ?_
      any_goals exact cLoadSum rfl (.l rfl h5) Tryz.underlying28 sizeS
      rotate_left
      refine' LineE.cons rfl rfl rfl (.run rfl rfl ?_) ?_
      any_goals exact cBuildSums [x] rfl (parts1v rfl rfl) Tryz.underlying30 infoS rfl
      rotate_left
      refine' LineE.event rfl rfl rfl ?_ ?_
      any_goals exact evAppend (m := 1) (news := flat [x]) rfl rfl Tryz.underlying30 infoS zero32_size hseg (.t rfl) sl_news (flat_len _) flat_one' (by simp [maxLen]; omega) (by omega)
      rotate_left
      exact LineE.nil
    intro a W hsz hdf v' hv37 ⟨hk7, S', hseg', hS'⟩ hX
    simp only [List.take_succ_cons, List.take_zero, List.drop_succ_cons, List.drop_zero] at hX ⊢
    dsimp only [ext, Option.getD] at hX
    have hF : Fr 57 [(0, Ty.ex (.int .u64 (seed : Int))), (4, Ty.ex (.pointer (some ⟨g4, 0, none⟩))), (5, Ty.ex (.slice (some ⟨gl, 0, none⟩) 10 10)), (16, Ty.ex vx), (17, Ty.ex (.int .i64 (X.length : Int))), (18, Ty.ex (.int .i64 (k : Int))), (24, Ty.ex (.slice (some ⟨gl, 0, none⟩) 10 10)), (25, Ty.ex (.int .i64 (i : Int))), (32, Ty.ex v')] a W := ((((((((((Fr.bare hsz hdf).letter hv37).letter (hX 25 _ rfl)).letter (hX 24 _ rfl)).letter (hX 18 _ rfl)).letter (hX 17 _ rfl)).letter (hX 16 _ rfl)).letter (hX 5 _ rfl)).letter (hX 4 _ rfl)).letter (hX 0 _ rfl))
    have hOS : ∀ y ∈ S', w.heap.size ≤ y := fun y hy => (hS' y hy).elim (hS i hi10 y) fun h => Nat.le_trans hB.size h
    have hBW := below_lo hB (Nat.le_refl _) hk7 (hS i hi10)
    have hvxW := hvx.keeps hk7 (fun y hy hm => hSx i hi10 y hm hy)
    have hb4W := hb4.keeps hk7 (blk_apart hseg hb4 (by decide))
    have hblW := hL.blk.keeps hk7 (blk_apart hseg hL.blk (by decide))
    replace hB := Below.refl W.heap.size W
    refine' tlOp hF rfl rfl rfl ?_ ?_
    rotate_left
    · exact cIndexEx (k := i) (sz := 1) rfl rfl rfl Tryz.underlying103 sizeSL1 hi10
    intro a w30 hF hb
    have hBs := hB.size
    replace hB := hB.trans (hb.mono hB.size)
    try (refine wpList_nil ?_)
    have hk30 := hk7.trans (Keeps.of_below (S := S i) (hb.mono (Nat.le_refl _)))
    have hseg30 := hseg'.below hb
    have hvx30 := hvxW.below hb
    have hb430 := hb4W.below hb
    have hbl30 := hblW.below hb
    have hB30 := hBW.trans (hb.mono hBW.size)
    have hc1 := sl_cells (seg_isA hseg30)
    have ho1 := sl_one1 (seg_isA hseg30)
    refine tlStoreF (k := 0 + i * 1) (v := v') (Δ := [(0, Ty.ex (.int .u64 (seed : Int))), (4, Ty.ex (.pointer (some ⟨g4, 0, none⟩))), (5, Ty.ex (.slice (some ⟨gl, 0, none⟩) 10 10)), (16, Ty.ex vx), (17, Ty.ex (.int .i64 (X.length : Int))), (18, Ty.ex (.int .i64 (k : Int)))]) hF rfl rfl rfl rfl (hF.getEx (s := 32) rfl) hbl30 (by rw [hc1]; simp [lvCells]; omega) (by rw [hc1]; exact sizeSL1) ho1 (hF.keep [0, 4, 5, 16, 17, 18]) rfl ?_
    intro w31 hF hbl31 hk31
    refine wpList_nil ?_
    rw [show splice (lvCells uv).toArray (0 + i * 1) v'.cells.toList = (lvCells (upd uv i v')).toArray by rw [hc1, show 0 + i * 1 = i by omega]; exact lvCells_set uv hi10 v'] at hbl31
    have hM := hL.next hi10 hi hk30 hseg30 hS' hbl31 hk31
    have hvx31 := hvx30.keeps hk31 (seg_far hvx30 hbl30 (by decide))
    have hb431 := hb430.keeps hk31 (by simpa using hb430.ne hbl30 (by decide))
    replace hB := below_own hB30 hk31 (by intro y hy; simp only [List.mem_singleton] at hy; omega)
    repeat with_reducible first | refine nThen ?_ | refine nBlk ?_
    refine' reg_all hF ?_ mixed (by kernel_rfl) ?_
    rotate_left
    · repeat (first | exact Line.nil | ((refine' Line.cons rfl (.run rfl rfl ?_) ?_); (any_goals (first | exact cMove rfl rfl | exact cAdd (r := ((k + 1 : Nat) : Int)) rfl rfl rfl (by omega))); rotate_left))
    intro a w32 hF hb hN
    have hBs := hB.size
    replace hB := hB.trans (hb.mono hB.size)
    dsimp only [ext, Option.getD] at hF
    repeat with_reducible refine nThen ?_
    refine ⟨m - 1, by omega, k + 1, _, _, by omega, hF.keep [0, 4, 5, 16, 17, 18], hB, hb431.below hb, by rw [hts]; exact hM.below hb, fun j hj y hy => ?_, hvx31.below hb, fun j hj y hy => ?_⟩
    · by_cases hji : j = i
      · subst hji
        rw [upd_eq] at hy
        exact hOS y hy
      · rw [upd_ne _ _ hji] at hy
        exact hS j hj y hy
    · by_cases hji : j = i
      · subst hji
        rw [upd_eq] at hy
        rcases hS' y hy with h | h
        · exact hSx j hj y h
        · intro hm; have := hvx.lt y hm; omega
      · rw [upd_ne _ _ hji] at hy
        exact hSx j hj y hy
  clear hF hB hb4 hL hvx hbl
  rintro e a w10 ⟨rfl, uv, S, hF, hB0, hb4, hL⟩
  have hB := Below.refl w10.heap.size w10
  have hw10 := hB0.size
  repeat with_reducible first | refine wp_seq ?_ | refine nThen ?_ | refine xHere ?_
  refine wp_region_lit ?_
  refine' tlOp hF rfl rfl rfl ?_ ?_
  rotate_left
  · exact cMove rfl rfl
  intro a w11 hF hb
  have hBs := hB.size
  replace hB := hB.trans (hb.mono hB.size)
  try (refine wpList_nil ?_)
  refine' tlOp hF rfl rfl rfl ?_ ?_
  rotate_left
  · exact cBuildI rfl rfl (fun w => buildSt1 (seed : Int) w)
  intro a w12 hF hb
  have hBs := hB.size
  replace hB := hB.trans (hb.mono hB.size)
  try (refine wpList_nil ?_)
  have hw12 := hB.size
  refine' tlOp hF rfl rfl rfl ?_ ?_
  rotate_left
  · exact cAllocN rfl (run_alloc_i infoStA)
  intro a w13 hF hb
  have hBs := hB.size
  replace hB := hB.trans (hb.mono hB.size)
  try (refine wpList_nil ?_)
  obtain ⟨z, ⟨g9, rfl, hg9, hb9⟩, hF⟩ := hF.open (s := 9) rfl
  have hg9 : w12.heap.size ≤ g9 := hg9
  refine tlStoreV (Δ := [(0, Ty.ex (.int .u64 (seed : Int))), (4, Ty.ex (.pointer (some ⟨g4, 0, none⟩))), (5, Ty.ex (.slice (some ⟨gl, 0, none⟩) 10 10)), (9, Ty.ex (.pointer (some ⟨g9, 0, none⟩)))]) hF rfl rfl rfl rfl (hF.getEx (s := 36) rfl) hb9 rfl sizeStA (tabCells seed _ _ _) (hF.keep [0, 4, 5, 9]) rfl ?_
  intro w14 hF hb9' hkx
  refine wpList_nil ?_
  replace hB := below_own hB hkx (by intro y hy; simp only [List.mem_singleton] at hy; omega)
  replace hb9 : Blk w14 g9 StT #[.int .u64 (seed : Int), nilS] := hb9'
  clear hb9' hkx
  repeat with_reducible first | refine wp_seq ?_ | refine nThen ?_
  refine' reg_all hF ?_ mixed (by kernel_rfl) ?_
  rotate_left
  · repeat (first | exact Line.nil | ((refine' Line.cons rfl (.run rfl rfl ?_) ?_); (any_goals (first | exact cMove rfl rfl | exact cLenEx rfl rfl Tryz.underlying103)); rotate_left))
  intro a w15 hF hb hN
  have hBs := hB.size
  replace hB := hB.trans (hb.mono hB.size)
  dsimp only [ext, Option.getD] at hF
  repeat with_reducible first | refine nThen ?_ | refine wp_block ?_
  replace hb9 := hb9.below hb
  have hg9w : w10.heap.size ≤ g9 := by omega
  have hg49 : g4 < w10.heap.size := hb4.lt
  let f : Nat → List Cl := fun i => ofL seed 24 (lvl X i)
  refine loop_ty (fun m a wr => ∃ (j : Nat) (u9 : Value) (S9 : List Nat) (ss : List Value), j + m = 10 ∧ Fr 57 [(0, Ty.ex (.int .u64 (seed : Int))), (4, Ty.ex (.pointer (some ⟨g4, 0, none⟩))), (9, Ty.ex (.pointer (some ⟨g9, 0, none⟩))), (37, Ty.ex (.slice (some ⟨gl, 0, none⟩) 10 10)), (38, Ty.ex (.int .i64 10)), (39, Ty.ex (.int .i64 (j : Int)))] a wr ∧ Below w10.heap.size w10 wr ∧ Blk wr g9 StT #[.int .u64 (seed : Int), u9] ∧ Seg wr 40 2 u9 j (flatT seed ss) S9 ∧ (∃ S, Slw lo wr 69 ss ((List.range j).map f) S) ∧ ∀ y ∈ S9, w10.heap.size ≤ y) 10 ?_ ?_
  · exact ⟨0, nilS, [], [], rfl, hF.keep [0, 4, 9, 37, 38, 39], hB, hb9, Seg.nil _ _ _, ⟨_, Slw.nil _ _ _⟩, fun y hy => by cases hy⟩
  clear hF hB hb9
  rintro m a wr ⟨j, u9, S9, ss, hj, hF, hBr, hb9, hseg9, ⟨S, hss⟩, hS9⟩
  have hB := Below.refl wr.heap.size wr
  have hLr := hL.below hBr
  repeat with_reducible refine wp_seq ?_
  refine' reg_all hF ?_ mixed (by kernel_rfl) ?_
  rotate_left
  · repeat (first | exact Line.nil | ((refine' Line.cons rfl (.run rfl rfl ?_) ?_); (any_goals exact cLss rfl rfl rfl); rotate_left))
  intro a w20 hF hb hN
  have hBs := hB.size
  replace hB := hB.trans (hb.mono hB.size)
  dsimp only [ext, Option.getD] at hF
  repeat with_reducible first | refine wp_seq ?_ | refine nThen ?_
  refine cond_ty hF rfl (fun hlt => ?_) (fun hge => ?_)
  rotate_left
  · have hge : ¬ j < 10 := by have := of_decide_eq_false hge; omega
    obtain hj10 : j = 10 := by omega
    rw [hj10] at hss hseg9
    replace hb9 := hb9.below hb
    replace hseg9 := hseg9.below hb
    replace hss := hss.below hb
    have hb420 := (hb4.below hBr).below hb
    have hat9 : (Ty.at_ StT [.int .u64 (seed : Int), u9]).p w20 (.pointer (some ⟨g9, 0, none⟩)) := ⟨g9, 0, _, (0, 0), rfl, hb9, fun j u h => by simpa using h⟩
    replace hB := Below.refl w20.heap.size w20
    have hB20 := hB0.trans ((hBr.trans (hb.mono hBr.size)).mono hw10)
    repeat with_reducible first | refine wp_seq ?_ | refine nThen ?_ | refine wp_exit ?_ | refine xThen ?_ | refine xHere ?_
    refine wp_region_lit ?_
    refine' tlOp hF rfl rfl rfl ?_ ?_
    rotate_left
    · exact cLoadAll (cs := #[.int .u64 (seed : Int), u9]) rfl (.l rfl hat9) Tryz.underlying45 rfl sizeStA
    intro a w21 hF hb
    have hBs := hB.size
    replace hB := hB.trans (hb.mono hB.size)
    try (refine wpList_nil ?_)
    refine tlStoreV (Δ := [(4, Ty.ex (.pointer (some ⟨g4, 0, none⟩)))]) hF rfl rfl rfl rfl (hF.getEx (s := 56) rfl) (hb420.below hb) rfl sizeStA (sl_one (hseg9.below hb).sl _) (hF.keep [4]) rfl ?_
    intro w22 hF hb4' hkx
    refine wpList_nil ?_
    have hs22 := (hss.below hb).far hkx (hb420.below hb) (by decide)
    have hg22 := (hseg9.below hb).keeps hkx (seg_far (hseg9.below hb) (hb420.below hb) (by decide))
    have hB22 := below_own (hB20.trans (hb.mono hB20.size)) hkx (by intro y hy; simp only [List.mem_singleton] at hy; omega)
    repeat with_reducible first | refine nThen ?_ | refine wp_ret ?_
    refine retCell hF rfl rfl hb4' Tryz.underlying45 rfl sizeStA ?_
    exact ⟨_, rfl, ⟨u9, ss, S, S9, rfl, hs22, by rw [List.length_map, List.length_range]; exact hg22, fun y hy => by have := hS9 y hy; omega⟩, hB22⟩
  have hlt : j < 10 := by have := of_decide_eq_true hlt; omega
  have hat := (hLr.below hb).at_ hlt
  let TS := Ty.sums 28 (lvl X j)
  have hsu : TS.p wr (uv j) := (hLr.seg j hlt).sl
  have o1 := tof_ty seed 24 (lvl X j) (by have := lvl_len X j; omega) hsd
  rw [newE_good g24, newS_good g24] at o1
  repeat with_reducible first | refine wp_seq ?_ | refine nThen ?_ | refine wp_skip ?_ | refine wp_block ?_
  refine' reg_all hF ?_ mixed (by kernel_rfl) ?_
  rotate_left
  · repeat (first | exact Line.nil | ((refine' Line.cons rfl (.run rfl rfl ?_) ?_); (any_goals (first | exact cAssign rfl rfl | exact cIndexEx (k := j) (sz := 1) rfl rfl rfl Tryz.underlying103 sizeSL1 hlt | exact cLoad1 (u := uv j) rfl (.l rfl hat) (pts_at _ _) Tryz.underlying30 rfl)); rotate_left))
  intro a w21 hF hb hN
  have hBs := hB.size
  replace hB := hB.trans (hb.mono hB.size)
  dsimp only [ext, Option.getD] at hF
  repeat with_reducible first | refine wp_seq ?_ | refine nThen ?_
  refine wp_region_lit ?_
  refine' tlOp hF rfl rfl rfl ?_ ?_
  rotate_left
  · exact cMove rfl rfl
  intro a w22_0 hF hb
  replace hB := hB.trans (hb.mono hB.size)
  have hz_w22_0 := hB.size
  refine' tlOp hF rfl rfl rfl ?_ ?_
  rotate_left
  · exact cMove rfl rfl
  intro a w22_1 hF hb
  replace hB := hB.trans (hb.mono hB.size)
  have hz_w22_1 := hB.size
  refine' tlOp hF rfl rfl rfl ?_ ?_
  rotate_left
  · exact cCallR3 rfl (.t rfl) (.t rfl) (.l rfl (TS.below hsu hB)) o1 (tabE_olds _ _ _ _)
  intro a w22_2 hF hb
  replace hB := hB.trans (hb.mono hB.size)
  have hz_w22_2 := hB.size
  refine' tlOp hF rfl rfl rfl ?_ ?_
  rotate_left
  · exact cMove rfl rfl
  intro a w22_3 hF hb
  replace hB := hB.trans (hb.mono hB.size)
  have hz_w22_3 := hB.size
  refine' tlOp hF rfl rfl rfl ?_ ?_
  rotate_left
  · exact cExtT rfl rfl
  intro a w22_t hF hb
  replace hB := hB.trans (hb.mono hB.size)
  have hz_w22_t := hB.size
  refine' tlOp hF rfl rfl rfl ?_ ?_
  rotate_left
  · exact cExtE rfl rfl
  intro a w22_e hF hb
  replace hB := hB.trans (hb.mono hB.size)
  have hz_w22_e := hB.size
  have hBa := hB
  refine tlNewTabS2 hF rfl rfl rfl (by decide) rfl (run_alloc_i infoT46) rfl rfl rfl rfl sizeT46 fun a w22_n s hF hb hbT hsT => ?_
  replace hB := hB.trans (hb.mono hB.size)
  refine' tlOp hF rfl rfl rfl ?_ ?_
  rotate_left
  · exact cAssign rfl rfl
  intro a w22 hF hb
  replace hB := hB.trans (hb.mono hB.size)
  have hz_w22 := hB.size
  try (refine wpList_nil ?_)
  repeat with_reducible refine nThen ?_
  replace hbT := hbT.below hb
  replace hsT := (Ty.seg _ 69 65 _ _).below hsT hb
  obtain ⟨S12, hs12, hS12⟩ := hsT
  have hat12 : (Ty.at_ 40 [.int .u64 (seed : Int), s]).p w22 (.pointer (some ⟨w22_e.heap.size, 0, none⟩)) := ⟨_, 0, _, (0, 0), rfl, hbT, fun j u h => by simpa using h⟩
  generalize Value.pointer (some ⟨w22_e.heap.size, 0, none⟩) = v12 at hF hat12
  have hap : ∀ i, i < ((List.range j).map f).length → ∀ y ∈ S i, y ∉ S12 := fun i hi y hy hm => by
    have h1 := (hss.2.1 i hi).1.lt y hy
    have h2 := hS12 y hm
    omega
  have hlo12 : ∀ y ∈ S12, lo ≤ y := fun y hy => by
    have h2 := hS12 y hy
    have h3 := hBr.size
    omega
  have hb922 := hb9.below hB
  have hseg22 := hseg9.below hB
  have hss22 := hss.below hB
  have hB22 := hBr.trans (hB.mono hBr.size)
  replace hF := hF.keep [0, 4, 9, 12, 37, 38, 39]
  dsimp only [pick, look] at hF
  replace hB := Below.refl w22.heap.size w22
  have hat9 := st_at hb922
  refine wp_region_lit ?_
  refine' tlOp hF rfl rfl rfl ?_ ?_
  rotate_left
  · exact cStP rfl rfl
  intro a w30 hF hb
  have hBs := hB.size
  replace hB := hB.trans (hb.mono hB.size)
  try (refine wpList_nil ?_)
  refine' tlOp hF rfl rfl rfl ?_ ?_
  rotate_left
  · exact cLoad1 (u := u9) rfl (.l rfl ((Ty.at_ StT [u9]).below hat9 hB)) (pts_at _ _) Tryz.underlying43 rfl
  intro a w31 hF hb
  have hBs := hB.size
  replace hB := hB.trans (hb.mono hB.size)
  try (refine wpList_nil ?_)
  refine' tlOp hF rfl rfl rfl ?_ ?_
  rotate_left
  · exact cLoadT46 rfl (.l rfl ((Ty.at_ 40 _).below hat12 hB))
  intro a w32 hF hb
  have hBs := hB.size
  replace hB := hB.trans (hb.mono hB.size)
  try (refine wpList_nil ?_)
  refine' tlOp hF rfl rfl rfl ?_ ?_
  rotate_left
  · exact cBuildV (vs := [.agg #[.int .u64 (seed : Int), s]]) rfl (parts1v rfl rfl) Tryz.underlying43 infoTab rfl (by intro v hv; simp only [List.mem_singleton] at hv; subst hv; rfl) (by decide) (by simp [maxLen])
  intro a w33 hF hb
  have hBs := hB.size
  replace hB := hB.trans (hb.mono hB.size)
  try (refine wpList_nil ?_)
  have hseg33 := hseg22.below hB
  have hb933 := hb922.below hB
  have hss33 := hss22.below hB
  have hs33 := hs12.below hB
  have hB33 := hB22.trans (hB.mono hB22.size)
  refine tlAppend (Δ := [(0, Ty.ex (.int .u64 (seed : Int))), (4, Ty.ex (.pointer (some ⟨g4, 0, none⟩))), (9, Ty.ex (.pointer (some ⟨g9, 0, none⟩))), (37, Ty.ex (.slice (some ⟨gl, 0, none⟩) 10 10)), (38, Ty.ex (.int .i64 10)), (39, Ty.ex (.int .i64 (j : Int)))]) (n := j) (m := 1) (news := flatT seed [s]) hF rfl rfl rfl rfl Tryz.underlying43 infoTab rfl rfl hseg33 (.t rfl) sl_news rfl (flatT_one1 hs33.sl seed) (by simp [maxLen]; omega) (by omega) (hF.keep [0, 4, 9, 37, 38, 39]) rfl ?_
  intro a w34 u9' S9' hF hseg34 hk34 hS34
  have hb934 := hb933.keeps hk34 (blk_apart hseg33 hb933 (by decide))
  have hss34 := hss33.keepSeg hk34 hseg33 (by decide)
  have hs34 := seg_keepSeg hs33 hk34 hseg33 (by decide)
  have hS9n : ∀ y ∈ S9', w10.heap.size ≤ y := own_next hB33 hS9 hS34
  have hB34 := below_own hB33 hk34 hS9
  replace hB := Below.refl w34.heap.size w34
  refine' tlOp hF rfl rfl rfl ?_ ?_
  rotate_left
  · exact cStP rfl rfl
  intro a w35 hF hb
  have hBs := hB.size
  replace hB := hB.trans (hb.mono hB.size)
  try (refine wpList_nil ?_)
  have hseg35 := hseg34.below hb
  have hb935 := hb934.below hb
  have hc1 := sl_cells (seg_isA hseg35)
  have ho1 := sl_one1 (seg_isA hseg35)
  refine tlStoreF (k := 1) (v := u9') (Δ := [(0, Ty.ex (.int .u64 (seed : Int))), (4, Ty.ex (.pointer (some ⟨g4, 0, none⟩))), (9, Ty.ex (.pointer (some ⟨g9, 0, none⟩))), (37, Ty.ex (.slice (some ⟨gl, 0, none⟩) 10 10)), (38, Ty.ex (.int .i64 10)), (39, Ty.ex (.int .i64 (j : Int)))]) hF rfl rfl rfl rfl (hF.getEx (s := 53) rfl) hb935 (by rw [hc1]; simp) (by rw [hc1]; exact sizeTLA) ho1 (hF.keep [0, 4, 9, 37, 38, 39]) rfl ?_
  intro w36 hF hb36 hk36
  rw [show splice #[.int .u64 (seed : Int), u9] 1 u9'.cells.toList = #[.int .u64 (seed : Int), u9'] by rw [hc1]; rfl] at hb36
  refine wpList_nil ?_
  have hss36 := (hss34.below hb).far hk36 hb935 (by decide)
  have hs36 := (hs34.below hb).keeps hk36 (seg_far (hs34.below hb) hb935 (by decide))
  have hseg36 := hseg35.keeps hk36 (seg_far hseg35 hb935 (by decide))
  replace hB := below_own (hB34.trans (hb.mono hB34.size)) hk36 (by intro y hy; simp only [List.mem_singleton] at hy; omega)
  repeat with_reducible first | refine nThen ?_ | refine nBlk ?_
  refine' reg_all hF ?_ mixed (by kernel_rfl) ?_
  rotate_left
  · repeat (first | exact Line.nil | ((refine' Line.cons rfl (.run rfl rfl ?_) ?_); (any_goals (first | exact cMove rfl rfl | exact cAdd (r := ((j + 1 : Nat) : Int)) rfl rfl rfl (by omega))); rotate_left))
  intro a w37 hF hb hN
  have hBs := hB.size
  replace hB := hB.trans (hb.mono hB.size)
  dsimp only [ext, Option.getD] at hF
  repeat with_reducible refine nThen ?_
  refine ⟨m - 1, by omega, j + 1, u9', S9', ss ++ [s], by omega, hF.keep [0, 4, 9, 37, 38, 39], hB, hb36.below hb, ?_, ?_, hS9n⟩
  · rw [flatT_snoc]
    exact hseg36.below hb
  · rw [take_range]
    refine ⟨_, (hss36.snoc hs36 hlo12 hap).below hb⟩
theorem stof_any (seed : Nat) (D : List Sm) (hD : D.length ≤ 1000000) (hsd : seed < 18446744073709551616) (w : World) (v u : Value) (hv : v = .int .u64 (seed : Int)) (hu : (Ty.sums 28 D).p w u) (hT : TabOk w) : Ret Tryz.prog 15 #[v, u] w (Ty.stra 40 69 seed (stL seed D)) := by
  have h := stofO_any 0 seed D hD hsd w (Nat.zero_le _) v u hv hu hT
  unfold Ret at h ⊢
  refine Calls.mono h fun e w' h => ?_
  obtain ⟨z, h1, h2, h3⟩ := h
  exact ⟨z, h1, straO_stra _ _ h2, h3⟩
end Go.Proofs.YtmefpnklgfhggaaGreatDoor

/- Layer 16 by types: PeelSelf, PeelOne, PeelRoom. -/
namespace Go.Proofs.YtmefpnklgfhggaaGreatDoor
open Go.RowKit

end Go.Proofs.YtmefpnklgfhggaaGreatDoor

/- Layer 17 by types: awake, StrataCells, StrataSelf. -/
namespace Go.Proofs.YtmefpnklgfhggaaGreatDoor
open Go.RowKit

section
variable {P : Program} {w0 : World} {Γ : Ctx} {o : Oper} {f : FuncId} {ats : Array TypeId} {ρ : Ty}
/-- Calls that ask for the library's table. -/
theorem cCallT0 (ho : o.op = .call { callee := .value (.func f), args := #[], argTypes := ats }) (hT : TabOk w0) (he : Enters P f) (hc : ∀ w, TabOk w → Ret P f #[] w ρ) : OpOk P w0 Γ o ρ :=
  .call fun a w hb _ => ⟨f, #[], by rw [exec_go a.eval ho rfl]; simpa using he #[] w, hc w (hT.below hb)⟩
theorem cCallT2 {x y : Operand} {τ σ : Ty} (ho : o.op = .call { callee := .value (.func f), args := #[x, y], argTypes := ats }) (hx : Has w0 Γ x τ) (hy : Has w0 Γ y σ) (hT : TabOk w0) (he : Enters P f) (hc : ∀ w v u, τ.p w v → σ.p w u → TabOk w → Ret P f #[v, u] w ρ) : OpOk P w0 Γ o ρ :=
  .call fun a w hb hs => by
    obtain ⟨v, h1, h2⟩ := hx.see hs (by simp [ho, Op.operands, Call.operands]) hb
    obtain ⟨u, h3, h4⟩ := hy.see hs (by simp [ho, Op.operands, Call.operands]) hb
    refine ⟨f, #[v, u], ?_, hc w v u h2 h4 (hT.below hb)⟩
    rw [exec_go a.eval ho rfl]
    simp only [List.map_toArray, List.map_cons, List.map_nil, h1, h3]
    exact he _ w
end
section
variable {P : Program} {w0 : World} {Γ : Ctx} {o : Oper} {f : FuncId} {ats : Array TypeId} {ρ : Ty}
theorem cCallT2b {x y : Operand} {τ σ : Ty} (ho : o.op = .call { callee := .value (.func f), args := #[x, y], argTypes := ats }) (hx : Has w0 Γ x τ) (hy : Has w0 Γ y σ) (hT : TabOk w0) (he : Enters P f) (hc : ∀ w v u, w0.heap.size ≤ w.heap.size → τ.p w v → σ.p w u → TabOk w → Ret P f #[v, u] w ρ) : OpOk P w0 Γ o ρ :=
  .call fun a w hb hs => by
    obtain ⟨v, h1, h2⟩ := hx.see hs (by simp [ho, Op.operands, Call.operands]) hb
    obtain ⟨u, h3, h4⟩ := hy.see hs (by simp [ho, Op.operands, Call.operands]) hb
    refine ⟨f, #[v, u], ?_, hc w v u hb.size h2 h4 (hT.below hb)⟩
    rw [exec_go a.eval ho rfl]
    simp only [List.map_toArray, List.map_cons, List.map_nil, h1, h3]
    exact he _ w
end
theorem tabs_one {T e : TypeId} {sd : Nat} {Ls : List (List Cl)} {w : World} {s : Value} (h : (Ty.tabs T e sd Ls).p w s) (n : Nat) : (Value.agg #[.int .u64 (n : Int), s]).cells.all (·.oneCell') = true := by
  obtain ⟨ss, _, h2⟩ := h
  exact sl_one h2 n
theorem enOf : Enters Tryz.prog 15 := fun args w => by kernel_rfl
theorem stof_hc (seed : Nat) (D : List Sm) (hD : D.length ≤ 1000000) (hsd : seed < 18446744073709551616) : ∀ w v u, (Ty.ex (.int .u64 (seed : Int))).p w v → (Ty.sums 28 D).p w u → TabOk w → Ret Tryz.prog 15 #[v, u] w (Ty.stra 40 69 seed (stL seed D)) := fun w v u hv hu hT => stof_any seed D hD hsd w v u hv hu hT
end Go.Proofs.YtmefpnklgfhggaaGreatDoor

/- Recon by types: a side's memory; New, Ask, Done, Rounds, Theirs, Ours. -/
namespace Go.Proofs.YtmefpnklgfhggaaGreatDoor
open Go.RowKit

abbrev SideT : TypeId := 92
abbrev AskT : TypeId := 35
/-- What a side knows. -/
structure Sd where
  mine : List Sm
  kind : Int
  n : Int
  seed : Nat
  theirs : List Sm
  ours : List Sm
  rounds : Nat
def sdCs (m t o : Value) (s : Sd) : Array Value := #[m, .int .i64 s.kind, .int .i64 s.n, .int .u64 (s.seed : Int), t, o, .int .i64 (s.rounds : Int)]
/-- A side's memory. -/
structure SideM (w : World) (g : Nat) (m t o : Value) (s : Sd) : Prop where
  blk : Blk w g SideT (sdCs m t o s)
  mine : (Ty.sums 28 s.mine).p w m
  theirs : (Ty.sums 28 s.theirs).p w t
  ours : (Ty.sums 28 s.ours).p w o
theorem SideM.below {w w' : World} {g : Nat} {m t o : Value} {s : Sd} (h : SideM w g m t o s) (hb : Below w.heap.size w w') : SideM w' g m t o s := ⟨h.blk.below hb, (Ty.sums 28 _).below h.mine hb, (Ty.sums 28 _).below h.theirs hb, (Ty.sums 28 _).below h.ours hb⟩
theorem SideM.far {w w' : World} {g g2 : Nat} {ty : TypeId} {cs : Array Value} {m t o : Value} {s : Sd} (h : SideM w g m t o s) (k : Keeps [g2] w w') (hb : Blk w g2 ty cs) (hne : g ≠ g2) (ht : (ty == 28) = false) : SideM w' g m t o s := ⟨h.blk.keeps k (by simpa using hne), (Ty.sums 28 _).far h.mine k hb ht, (Ty.sums 28 _).far h.theirs k hb ht, (Ty.sums 28 _).far h.ours k hb ht⟩
theorem SideM.rd {w : World} {g : Nat} {m t o : Value} {s : Sd} (h : SideM w g m t o s) (i : Nat) : (Ty.at_ SideT ((sdCs m t o s).toList.drop i)).p w (.pointer (some ⟨g, i, none⟩)) := ⟨g, i, _, (0, 0), rfl, h.blk, fun j u hu => by rw [List.getElem?_drop] at hu; simpa using hu⟩
theorem SideM.a0 {w : World} {g : Nat} {m t o : Value} {s : Sd} (h : SideM w g m t o s) : (Ty.at_ SideT [m]).p w (.pointer (some ⟨g, 0, none⟩)) := at_pre (xs := [m]) _ _ (h.rd 0)
theorem SideM.a1 {w : World} {g : Nat} {m t o : Value} {s : Sd} (h : SideM w g m t o s) : (Ty.at_ SideT [.int .i64 s.kind, .int .i64 s.n, .int .u64 (s.seed : Int)]).p w (.pointer (some ⟨g, 1, none⟩)) := at_pre (xs := [.int .i64 s.kind, .int .i64 s.n, .int .u64 (s.seed : Int)]) _ _ (h.rd 1)
theorem SideM.a2 {w : World} {g : Nat} {m t o : Value} {s : Sd} (h : SideM w g m t o s) : (Ty.at_ SideT [.int .i64 s.n]).p w (.pointer (some ⟨g, 2, none⟩)) := at_pre (xs := [.int .i64 s.n]) _ _ (h.rd 2)
theorem SideM.a3 {w : World} {g : Nat} {m t o : Value} {s : Sd} (h : SideM w g m t o s) : (Ty.at_ SideT [.int .u64 (s.seed : Int)]).p w (.pointer (some ⟨g, 3, none⟩)) := at_pre (xs := [.int .u64 (s.seed : Int)]) _ _ (h.rd 3)
theorem SideM.a4 {w : World} {g : Nat} {m t o : Value} {s : Sd} (h : SideM w g m t o s) : (Ty.at_ SideT [t]).p w (.pointer (some ⟨g, 4, none⟩)) := at_pre (xs := [t]) _ _ (h.rd 4)
theorem SideM.a5 {w : World} {g : Nat} {m t o : Value} {s : Sd} (h : SideM w g m t o s) : (Ty.at_ SideT [o]).p w (.pointer (some ⟨g, 5, none⟩)) := at_pre (xs := [o]) _ _ (h.rd 5)
theorem SideM.a6 {w : World} {g : Nat} {m t o : Value} {s : Sd} (h : SideM w g m t o s) : (Ty.at_ SideT [.int .i64 (s.rounds : Int)]).p w (.pointer (some ⟨g, 6, none⟩)) := at_pre (xs := [.int .i64 (s.rounds : Int)]) _ _ (h.rd 6)
theorem sizeSLr : (Tryz.prog.info? 30).map (·.size) = some 1 := by kernel_rfl
theorem sizeAsk : (Tryz.prog.info? AskT).map (·.size) = some 3 := by kernel_rfl
theorem sizeIntR : (Tryz.prog.info? 3).map (·.size) = some 1 := by kernel_rfl
theorem sizeU64R : (Tryz.prog.info? 31).map (·.size) = some 1 := by kernel_rfl
theorem infoAsk : (Tryz.prog.info? AskT).map (fun i => (i.zero, i.size, i.bytes)) = some (some (.agg #[.int .i64 0, .int .i64 0, .int .u64 0]), 3, 24) := by kernel_rfl
section
variable {w0 : World} {Γ : Ctx} {o : Oper} {x y z : Operand} {g k : Nat}
theorem cSd0 (ho : o.op = .fieldAddr SideT x 0) (hx : OpT Γ x (Ty.ex (.pointer (some ⟨g, 0, none⟩)))) : OpOk Tryz.prog w0 Γ o (Ty.ex (.pointer (some ⟨g, 0, none⟩))) := cFieldExE ho hx Tryz.underlying92 rfl sizeSLr
theorem cSd1 (ho : o.op = .fieldAddr SideT x 1) (hx : OpT Γ x (Ty.ex (.pointer (some ⟨g, 0, none⟩)))) : OpOk Tryz.prog w0 Γ o (Ty.ex (.pointer (some ⟨g, 1, none⟩))) := cFieldExE ho hx Tryz.underlying92 rfl sizeAsk
theorem cSd2 (ho : o.op = .fieldAddr SideT x 2) (hx : OpT Γ x (Ty.ex (.pointer (some ⟨g, 0, none⟩)))) : OpOk Tryz.prog w0 Γ o (Ty.ex (.pointer (some ⟨g, 4, none⟩))) := cFieldExE ho hx Tryz.underlying92 rfl sizeSLr
theorem cSd3 (ho : o.op = .fieldAddr SideT x 3) (hx : OpT Γ x (Ty.ex (.pointer (some ⟨g, 0, none⟩)))) : OpOk Tryz.prog w0 Γ o (Ty.ex (.pointer (some ⟨g, 5, none⟩))) := cFieldExE ho hx Tryz.underlying92 rfl sizeSLr
theorem cSd4 (ho : o.op = .fieldAddr SideT x 4) (hx : OpT Γ x (Ty.ex (.pointer (some ⟨g, 0, none⟩)))) : OpOk Tryz.prog w0 Γ o (Ty.ex (.pointer (some ⟨g, 6, none⟩))) := cFieldExE ho hx Tryz.underlying92 rfl sizeIntR
theorem cAk0 (ho : o.op = .fieldAddr AskT x 0) (hx : OpT Γ x (Ty.ex (.pointer (some ⟨g, k, none⟩)))) : OpOk Tryz.prog w0 Γ o (Ty.ex (.pointer (some ⟨g, k, none⟩))) := cFieldExE (o2 := k) (off := 0) ho hx Tryz.underlying35 rfl sizeIntR
theorem cAk1 (ho : o.op = .fieldAddr AskT x 1) (hx : OpT Γ x (Ty.ex (.pointer (some ⟨g, k, none⟩)))) : OpOk Tryz.prog w0 Γ o (Ty.ex (.pointer (some ⟨g, k + 1, none⟩))) := cFieldExE (o2 := k) (off := 1) ho hx Tryz.underlying35 rfl sizeIntR
theorem cAk2 (ho : o.op = .fieldAddr AskT x 2) (hx : OpT Γ x (Ty.ex (.pointer (some ⟨g, k, none⟩)))) : OpOk Tryz.prog w0 Γ o (Ty.ex (.pointer (some ⟨g, k + 2, none⟩))) := cFieldExE (o2 := k) (off := 2) ho hx Tryz.underlying35 rfl sizeU64R
theorem cLdSet {e : TypeId} {u : Value} (ho : o.op = .load 30 x) (hx : Has w0 Γ x (Ty.at_ e [u])) : OpOk Tryz.prog w0 Γ o (Ty.ex u) := cLoad1 ho hx (pts_at _ _) Tryz.underlying30 rfl
theorem cLdInt {e : TypeId} {u : Value} {xs : List Value} (ho : o.op = .load 3 x) (hx : Has w0 Γ x (Ty.at_ e (u :: xs))) : OpOk Tryz.prog w0 Γ o (Ty.ex u) := cLoad1 ho hx (pts_at _ _) Tryz.underlying3 rfl
theorem cLdU64 {e : TypeId} {u : Value} {xs : List Value} (ho : o.op = .load 31 x) (hx : Has w0 Γ x (Ty.at_ e (u :: xs))) : OpOk Tryz.prog w0 Γ o (Ty.ex u) := cLoad1 ho hx (pts_at _ _) Tryz.underlying31 rfl
theorem cLdAsk {e : TypeId} {u v q : Value} (ho : o.op = .load AskT x) (hx : Has w0 Γ x (Ty.at_ e [u, v, q])) : OpOk Tryz.prog w0 Γ o (Ty.ex (.agg #[u, v, q])) := cLoadAll (cs := #[u, v, q]) ho hx Tryz.underlying35 rfl sizeAsk
theorem cBuildN2 {P : Program} {t : TypeId} {i j : Nat} {v u r : Value} (ho : o.op = .build t #[(i, x), (j, y)]) (hx : OpT Γ x (Ty.ex v)) (hy : OpT Γ y (Ty.ex u)) (hr : ∀ w : World, (Instr.build t #[(i, v), (j, u)]).run P w = .ok r w) : OpOk P w0 Γ o (Ty.ex r) :=
  cBuildP (vs := #[(i, v), (j, u)]) ho (fun a w hs => by
    obtain ⟨v', h1, h2⟩ := hs x _ (by simp [ho, Op.operands]) hx
    obtain ⟨u', h3, h4⟩ := hs y _ (by simp [ho, Op.operands]) hy
    have h2 : v' = v := h2
    have h4 : u' = u := h4
    simp [h1, h2, h3, h4]) hr
theorem cBuildN3 {P : Program} {t : TypeId} {i j l : Nat} {v u q r : Value} (ho : o.op = .build t #[(i, x), (j, y), (l, z)]) (hx : OpT Γ x (Ty.ex v)) (hy : OpT Γ y (Ty.ex u)) (hz : OpT Γ z (Ty.ex q)) (hr : ∀ w : World, (Instr.build t #[(i, v), (j, u), (l, q)]).run P w = .ok r w) : OpOk P w0 Γ o (Ty.ex r) :=
  cBuildP (vs := #[(i, v), (j, u), (l, q)]) ho (fun a w hs => by
    obtain ⟨v', h1, h2⟩ := hs x _ (by simp [ho, Op.operands]) hx
    obtain ⟨u', h3, h4⟩ := hs y _ (by simp [ho, Op.operands]) hy
    obtain ⟨q', h5, h6⟩ := hs z _ (by simp [ho, Op.operands]) hz
    have h2 : v' = v := h2
    have h4 : u' = u := h4
    have h6 : q' = q := h6
    simp [h1, h2, h3, h4, h5, h6]) hr
end
section
variable {P : Program} {w0 : World} {Γ : Ctx} {o : Oper}
/-- A value is laid into a block of the call's own. -/
theorem cBoxVarS {t : TypeId} {x : Operand} {v : Value} (ho : o.op = .box t x) (hx : OpT Γ x (Ty.ex v)) : OpOk P w0 Γ o (Ty.var w0 t v.cells) :=
  .new fun a w hb hs => by
    obtain ⟨u, h1, h2⟩ := hs x _ (by simp [ho, Op.operands]) hx
    have h2 : u = v := h2
    subst h2
    refine ⟨.pointer (some ⟨w.heap.size, 0, none⟩), w.alloc (.cells u.cells t), ⟨w.heap.size, rfl, hb.size, Blk.new w _ _⟩, ((Keeps.refl [] w).alloc (.cells u.cells t)).below, ?_⟩
    unfold execOp
    simp only [ho, h1]
    simp [Instr.box, newVar, newRow, go_sem]
end
theorem buildAsk12 (k sd : Int) (w : World) : (Instr.build AskT #[(0, .int .i64 k), (2, .int .u64 sd)]).run Tryz.prog w = .ok (.agg #[.int .i64 k, .int .i64 0, .int .u64 sd]) w := by
  have hz : (zeroValue AskT).run Tryz.prog w = .ok (.agg #[.int .i64 0, .int .i64 0, .int .u64 0]) w := by kernel_rfl
  have hu := run_underlying Tryz.underlying35 w
  have h2 := Tryz.sizeOf3 w
  simp only [Instr.build, Sem.run_bind, hz, Result.andThen_ok, hu]
  simp [h2, Instr.fill, Value.cells]
theorem buildAsk3 (k n sd : Int) (w : World) : (Instr.build AskT #[(0, .int .i64 k), (1, .int .i64 n), (2, .int .u64 sd)]).run Tryz.prog w = .ok (.agg #[.int .i64 k, .int .i64 n, .int .u64 sd]) w := by
  have hz : (zeroValue AskT).run Tryz.prog w = .ok (.agg #[.int .i64 0, .int .i64 0, .int .u64 0]) w := by kernel_rfl
  have hu := run_underlying Tryz.underlying35 w
  have h2 := Tryz.sizeOf3 w
  simp only [Instr.build, Sem.run_bind, hz, Result.andThen_ok, hu]
  simp [h2, Instr.fill, Value.cells]
theorem buildAsk1 (k : Int) (w : World) : (Instr.build AskT #[(0, .int .i64 k)]).run Tryz.prog w = .ok (.agg #[.int .i64 k, .int .i64 0, .int .u64 0]) w := by
  have hz : (zeroValue AskT).run Tryz.prog w = .ok (.agg #[.int .i64 0, .int .i64 0, .int .u64 0]) w := by kernel_rfl
  have hu := run_underlying Tryz.underlying35 w
  have h2 := Tryz.sizeOf3 w
  simp only [Instr.build, Sem.run_bind, hz, Result.andThen_ok, hu]
  simp [h2, Instr.fill, Value.cells]
theorem buildAsk0 (w : World) : (Instr.build AskT #[]).run Tryz.prog w = .ok (.agg #[.int .i64 0, .int .i64 0, .int .u64 0]) w := by
  have hz : (zeroValue AskT).run Tryz.prog w = .ok (.agg #[.int .i64 0, .int .i64 0, .int .u64 0]) w := by kernel_rfl
  have hu := run_underlying Tryz.underlying35 w
  simp only [Instr.build, Sem.run_bind, hz, Result.andThen_ok, hu]
  simp [Instr.fill, Value.cells]
theorem buildSide2 {m : Value} (hm : ∃ A l c, m = .slice A l c) (k n sd : Int) (w : World) : (Instr.build SideT #[(0, m), (1, .agg #[.int .i64 k, .int .i64 n, .int .u64 sd])]).run Tryz.prog w = .ok (.agg #[m, .int .i64 k, .int .i64 n, .int .u64 sd, nilS, nilS, .int .i64 0]) w := by
  obtain ⟨A, l, c, rfl⟩ := hm
  have hz : (zeroValue SideT).run Tryz.prog w = .ok (.agg #[nilS, .int .i64 0, .int .i64 0, .int .u64 0, nilS, nilS, .int .i64 0]) w := by kernel_rfl
  have hu := run_underlying Tryz.underlying92 w
  have h1 := Tryz.sizeOf30 w
  simp only [Instr.build, Sem.run_bind, hz, Result.andThen_ok, hu]
  simp [h1, Instr.fill, Value.cells]
/-- A side that has just begun. -/
def sd0 (M : List Sm) (seed : Nat) : Sd := ⟨M, 1, 0, seed, [], [], 0⟩
def Ty.newSd (w0 : World) (M : List Sm) (seed : Nat) : Ty := ⟨fun w v => ∃ g m, v = .pointer (some ⟨g, 0, none⟩) ∧ w0.heap.size ≤ g ∧ SideM w g m nilS nilS (sd0 M seed), fun t => t == SideT || t == 28, fun {w w' v G} ⟨g, m, h1, h2, h3⟩ k hA => ⟨g, m, h1, h2, h3.blk.keeps k (fun hm => by
  obtain ⟨cs', t, fr', k2, k3⟩ := hA g hm h3.blk.lt
  have hb := h3.blk
  unfold Blk at hb
  rw [hb] at k2
  simp only [Option.some.injEq, Obj.cells.injEq] at k2
  rw [← k2.2.1] at k3
  simp at k3), (Ty.sums 28 _).st h3.mine k (apart_r hA), (Ty.sums 28 _).st h3.theirs k (apart_r hA), (Ty.sums 28 _).st h3.ours k (apart_r hA)⟩⟩
theorem newSd_olds (M : List Sm) (seed : Nat) : Olds fun w => Ty.tup [Ty.newSd w M seed, Ty.ex (.int .i64 0)] := fun hs w v ⟨l, h1, h2⟩ => by
  match l, h2 with
  | [a, b], ⟨⟨g, m, k1, k2, k3⟩, k4, k5⟩ => exact ⟨[a, b], h1, ⟨g, m, k1, Nat.le_trans hs k2, k3⟩, k4, k5⟩
set_option maxRecDepth 100000 in
theorem new_any (M : List Sm) (seed : Nat) (hM : M.length ≤ 1000000) (hg : goodL M = true) : FnR2 Tryz.prog 9 (Ty.sums 28 M) (Ty.ex (.int .u64 (seed : Int))) (fun w => Ty.tup [Ty.newSd w M seed, Ty.ex (.int .i64 0)]) := by
  refine ⟨fun args w => by kernel_rfl, fun w v u hv hu => ?_⟩
  have hG := good_ty M hM
  rw [hg] at hG
  have hC := cloneL_ty M hM
  let TM := Ty.sums 28 M
  refine enter_ty 15 [Ty.ex v, Ty.ex (.int .u64 (seed : Int))] Tryz.func9 rfl (by kernel_rfl) ⟨rfl, hu, trivial⟩ fun a hF => ?_
  have hB := Below.refl w.heap.size w
  repeat with_reducible refine wp_seq ?_
  refine' reg_all hF ?_ mixed (by kernel_rfl) ?_
  rotate_left
  · repeat (first | exact Line.nil | ((refine' Line.cons rfl (.run rfl rfl ?_) ?_); (any_goals exact cAssign rfl rfl); rotate_left))
  intro a w1 hF hb hN
  have hBs := hB.size
  replace hB := hB.trans (hb.mono hB.size)
  dsimp only [ext, Option.getD] at hF
  repeat with_reducible first | refine wp_seq ?_ | refine nThen ?_
  refine' reg_all hF ?_ mixed (by kernel_rfl) ?_
  rotate_left
  · repeat (first | exact Line.nil | ((refine' Line.cons rfl (.run rfl rfl ?_) ?_); (any_goals (first | exact cMove rfl rfl | exact cNot rfl rfl | exact cCallH1 rfl (.l rfl (TM.below hv hB)) hG)); rotate_left))
  intro a w2 hF hb hN
  have hBs := hB.size
  replace hB := hB.trans (hb.mono hB.size)
  dsimp only [ext, Option.getD] at hF
  repeat with_reducible refine nThen ?_
  refine cond_f hF rfl ?_
  repeat with_reducible first | refine wp_seq ?_ | refine nThen ?_ | refine wp_skip ?_
  refine wp_region_lit ?_
  refine' tlOp hF rfl rfl rfl ?_ ?_
  rotate_left
  · exact cMove rfl rfl
  intro a w3 hF hb
  have hBs := hB.size
  replace hB := hB.trans (hb.mono hB.size)
  try (refine wpList_nil ?_)
  refine' tlOp hF rfl rfl rfl ?_ ?_
  rotate_left
  · exact cCallS1 rfl (.l rfl (TM.below hv hB)) hC
  intro a w4 hF hb
  have hBs := hB.size
  replace hB := hB.trans (hb.mono hB.size)
  try (refine wpList_nil ?_)
  obtain ⟨m, ⟨S, hm, hS⟩, hF⟩ := hF.open (s := 10) rfl
  refine' tlOp hF rfl rfl rfl ?_ ?_
  rotate_left
  · exact cMove rfl rfl
  intro a w5 hF hb
  have hBs := hB.size
  replace hB := hB.trans (hb.mono hB.size)
  try (refine wpList_nil ?_)
  replace hm := hm.below hb
  refine' tlOp hF rfl rfl rfl ?_ ?_
  rotate_left
  · exact cBuildN2 rfl rfl rfl (fun w => buildAsk12 _ _ w)
  intro a w6 hF hb
  have hBs := hB.size
  replace hB := hB.trans (hb.mono hB.size)
  try (refine wpList_nil ?_)
  replace hm := hm.below hb
  refine' tlOp hF rfl rfl rfl ?_ ?_
  rotate_left
  · exact cBuildN2 rfl rfl rfl (fun w => buildSide2 (seg_isA hm) _ _ _ w)
  intro a w7 hF hb
  have hBs := hB.size
  replace hB := hB.trans (hb.mono hB.size)
  try (refine wpList_nil ?_)
  replace hm := hm.below hb
  have hw7 := hB.size
  refine' tlOp hF rfl rfl rfl ?_ ?_
  rotate_left
  · exact cBoxVarS rfl rfl
  intro a w8 hF hb
  have hBs := hB.size
  replace hB := hB.trans (hb.mono hB.size)
  try (refine wpList_nil ?_)
  replace hm := hm.below hb
  obtain ⟨z, ⟨g, rfl, hgw, hbk⟩, hF⟩ := hF.open (s := 14) rfl
  replace hbk : Blk w8 g SideT (sdCs m nilS nilS (sd0 M seed)) := hbk
  have hgw : w7.heap.size ≤ g := hgw
  refine' tlOp hF rfl rfl rfl ?_ ?_
  rotate_left
  · exact cAssign rfl rfl
  intro a w9 hF hb
  have hBs := hB.size
  replace hB := hB.trans (hb.mono hB.size)
  try (refine wpList_nil ?_)
  replace hm := hm.below hb
  replace hbk := hbk.below hb
  refine' tlOp hF rfl rfl rfl ?_ ?_
  rotate_left
  · exact cAssign rfl rfl
  intro a w10 hF hb
  have hBs := hB.size
  replace hB := hB.trans (hb.mono hB.size)
  try (refine wpList_nil ?_)
  repeat with_reducible first | refine nThen ?_ | refine wp_ret ?_
  replace hm := hm.below hb
  replace hbk := hbk.below hb
  refine ret2 hF rfl rfl rfl fun a b ha hb => ?_
  exact ⟨_, rfl, ⟨[a, b], rfl, ⟨g, m, ha, by omega, hbk, hm.sl, sl_nil _ _, sl_nil _ _⟩, hb, trivial⟩, hB⟩
set_option maxRecDepth 100000 in
theorem new_bad (M : List Sm) (seed : Nat) (hM : M.length ≤ 1000000) (hg : goodL M = false) : Fn2 Tryz.prog 9 (Ty.sums 28 M) (Ty.ex (.int .u64 (seed : Int))) (Ty.tup [Ty.ex (.pointer none), Ty.ex (.int .i64 1)]) := by
  refine ⟨fun args w => by kernel_rfl, fun w v u hv hu => ?_⟩
  have hG := good_ty M hM
  rw [hg] at hG
  let TM := Ty.sums 28 M
  refine enter_ty 15 [Ty.ex v, Ty.ex (.int .u64 (seed : Int))] Tryz.func9 rfl (by kernel_rfl) ⟨rfl, hu, trivial⟩ fun a hF => ?_
  have hB := Below.refl w.heap.size w
  repeat with_reducible refine wp_seq ?_
  refine' reg_all hF ?_ mixed (by kernel_rfl) ?_
  rotate_left
  · repeat (first | exact Line.nil | ((refine' Line.cons rfl (.run rfl rfl ?_) ?_); (any_goals exact cAssign rfl rfl); rotate_left))
  intro a w1 hF hb hN
  have hBs := hB.size
  replace hB := hB.trans (hb.mono hB.size)
  dsimp only [ext, Option.getD] at hF
  repeat with_reducible first | refine wp_seq ?_ | refine nThen ?_
  refine' reg_all hF ?_ mixed (by kernel_rfl) ?_
  rotate_left
  · repeat (first | exact Line.nil | ((refine' Line.cons rfl (.run rfl rfl ?_) ?_); (any_goals (first | exact cMove rfl rfl | exact cNot rfl rfl | exact cCallH1 rfl (.l rfl (TM.below hv hB)) hG)); rotate_left))
  intro a w2 hF hb hN
  have hBs := hB.size
  replace hB := hB.trans (hb.mono hB.size)
  dsimp only [ext, Option.getD] at hF
  repeat with_reducible refine nThen ?_
  refine cond_t hF rfl ?_
  repeat with_reducible refine wp_seq ?_
  refine' reg_all hF ?_ mixed (by kernel_rfl) ?_
  rotate_left
  · repeat (first | exact Line.nil | ((refine' Line.cons rfl (.run rfl rfl ?_) ?_); (any_goals exact cAssign rfl rfl); rotate_left))
  intro a w3 hF hb hN
  have hBs := hB.size
  replace hB := hB.trans (hb.mono hB.size)
  dsimp only [ext, Option.getD] at hF
  repeat with_reducible first | refine nThen ?_ | refine wp_ret ?_ | refine rThen ?_
  refine ret2 hF rfl rfl rfl fun a b ha hb => ?_
  exact ⟨_, rfl, ⟨[a, b], rfl, ha, hb, trivial⟩, hB⟩
section
variable {w : World} {g : Nat} {m t o : Value} {s : Sd}
set_option maxRecDepth 100000 in
theorem ask_ret (h : SideM w g m t o s) : Ret Tryz.prog 11 #[.pointer (some ⟨g, 0, none⟩)] w (Ty.ex (.agg #[.int .i64 s.kind, .int .i64 s.n, .int .u64 (s.seed : Int)])) := by
  refine enter_ty 7 [Ty.ex (.pointer (some ⟨g, 0, none⟩))] Tryz.func11 rfl (by kernel_rfl) ⟨rfl, trivial⟩ fun a hF => ?_
  have hB := Below.refl w.heap.size w
  repeat with_reducible refine wp_seq ?_
  refine' reg_all hF ?_ mixed (by kernel_rfl) ?_
  rotate_left
  · repeat (first
        | exact Line.nil
        | (refine' Line.cons rfl (.new rfl rfl (run_alloc_i infoAsk) rfl) ?_; rotate_left)
        | ((first | refine' Line.cons rfl (.run rfl rfl ?_) ?_ | refine' Line.cons rfl (.yes rfl rfl rfl rfl ?_) ?_)
           any_goals fail
           rotate_left))
  intro a w1 hF hb hN
  have hBs := hB.size
  replace hB := hB.trans (hb.mono hB.size)
  dsimp only [ext, Option.getD] at hF
  repeat with_reducible first | refine wp_seq ?_ | refine nThen ?_
  obtain ⟨z, ⟨g2, rfl, hg2, hb2⟩, hF⟩ := hF.open (s := 2) rfl
  have hg2 : w.heap.size ≤ g2 := hg2
  have hS := h.below hB
  refine' region_ty 4 mixed (by kernel_rfl) hF ?_ ?_
  rotate_left
  · simp only [List.take_succ_cons, List.take_zero]
    repeat (first | exact Line.nil | ((refine' Line.cons rfl (.run rfl rfl ?_) ?_); (any_goals (first | exact cMove rfl rfl | exact cNilOk rfl rfl | exact cSd1 rfl rfl | exact cLdAsk rfl (.l rfl hS.a1))); rotate_left))
  intro a w2 hF hb hN
  have hBs := hB.size
  replace hB := hB.trans (hb.mono hB.size)
  simp only [List.take_succ_cons, List.take_zero, List.drop_succ_cons, List.drop_zero] at hF hN ⊢
  dsimp only [ext, Option.getD] at hF
  replace hb2 := hb2.below hb
  refine tlStoreV (Δ := [(2, Ty.ex (.pointer (some ⟨_, 0, none⟩)))]) hF rfl rfl rfl rfl (hF.getEx (s := 6) rfl) hb2 (rfl) (sizeAsk) ((by simp [Value.cells, Value.oneCell'])) (hF.keep [2]) rfl ?_
  intro w3 hF hb2 hkx
  refine wpList_nil ?_
  replace hB := below_own hB hkx (by intro y hy; simp only [List.mem_singleton] at hy; omega)
  repeat with_reducible first | refine nThen ?_ | refine wp_ret ?_
  refine retCell hF rfl rfl hb2 (Tryz.underlying35) rfl (sizeAsk) ?_
  exact ⟨_, rfl, rfl, hB⟩
set_option maxRecDepth 100000 in
theorem done_ret (h : SideM w g m t o s) : Ret Tryz.prog 20 #[.pointer (some ⟨g, 0, none⟩)] w (Ty.ex (.bool (decide (s.kind = 0)))) := by
  refine enter_ty 9 [Ty.ex (.pointer (some ⟨g, 0, none⟩))] Tryz.func20 rfl (by kernel_rfl) ⟨rfl, trivial⟩ fun a hF => ?_
  have hB := Below.refl w.heap.size w
  repeat with_reducible refine wp_seq ?_
  refine' reg_all hF ?_ mixed (by kernel_rfl) ?_
  rotate_left
  · repeat (first | exact Line.nil | ((refine' Line.cons rfl (.run rfl rfl ?_) ?_); (any_goals exact cAssign rfl rfl); rotate_left))
  intro a w1 hF hb hN
  have hBs := hB.size
  replace hB := hB.trans (hb.mono hB.size)
  dsimp only [ext, Option.getD] at hF
  repeat with_reducible first | refine wp_seq ?_ | refine nThen ?_
  have hS := h.below hB
  refine' reg_all hF ?_ mixed (by kernel_rfl) ?_
  rotate_left
  · repeat (first | exact Line.nil | ((refine' Line.cons rfl (.run rfl rfl ?_) ?_); (any_goals (first | exact cMove rfl rfl | exact cAssign rfl rfl | exact cNilOk rfl rfl | exact cSd1 rfl rfl | exact cAk0 rfl rfl | exact cLdInt rfl (.l rfl hS.a1) | exact cEql rfl rfl rfl)); rotate_left))
  intro a w2 hF hb hN
  have hBs := hB.size
  replace hB := hB.trans (hb.mono hB.size)
  dsimp only [ext, Option.getD] at hF
  repeat with_reducible first | refine nThen ?_ | refine wp_ret ?_
  refine ret1 hF rfl rfl fun z hz => ?_
  exact ⟨z, rfl, hz, hB⟩
set_option maxRecDepth 100000 in
theorem rounds_ret (h : SideM w g m t o s) : Ret Tryz.prog 21 #[.pointer (some ⟨g, 0, none⟩)] w (Ty.ex (.int .i64 (s.rounds : Int))) := by
  refine enter_ty 7 [Ty.ex (.pointer (some ⟨g, 0, none⟩))] Tryz.func21 rfl (by kernel_rfl) ⟨rfl, trivial⟩ fun a hF => ?_
  have hB := Below.refl w.heap.size w
  repeat with_reducible refine wp_seq ?_
  refine' reg_all hF ?_ mixed (by kernel_rfl) ?_
  rotate_left
  · repeat (first | exact Line.nil | ((refine' Line.cons rfl (.run rfl rfl ?_) ?_); (any_goals exact cAssign rfl rfl); rotate_left))
  intro a w1 hF hb hN
  have hBs := hB.size
  replace hB := hB.trans (hb.mono hB.size)
  dsimp only [ext, Option.getD] at hF
  repeat with_reducible first | refine wp_seq ?_ | refine nThen ?_
  have hS := h.below hB
  refine' reg_all hF ?_ mixed (by kernel_rfl) ?_
  rotate_left
  · repeat (first | exact Line.nil | ((refine' Line.cons rfl (.run rfl rfl ?_) ?_); (any_goals (first | exact cMove rfl rfl | exact cAssign rfl rfl | exact cNilOk rfl rfl | exact cSd4 rfl rfl | exact cLdInt rfl (.l rfl hS.a6))); rotate_left))
  intro a w2 hF hb hN
  have hBs := hB.size
  replace hB := hB.trans (hb.mono hB.size)
  dsimp only [ext, Option.getD] at hF
  repeat with_reducible first | refine nThen ?_ | refine wp_ret ?_
  refine ret1 hF rfl rfl fun z hz => ?_
  exact ⟨z, rfl, hz, hB⟩
set_option maxRecDepth 100000 in
theorem theirs_ret (h : SideM w g m t o s) (hl : s.theirs.length ≤ 1000000) : Ret Tryz.prog 23 #[.pointer (some ⟨g, 0, none⟩)] w (Ty.sums 28 s.theirs) := by
  have hC := cloneL_ty s.theirs hl
  refine enter_ty 8 [Ty.ex (.pointer (some ⟨g, 0, none⟩))] Tryz.func23 rfl (by kernel_rfl) ⟨rfl, trivial⟩ fun a hF => ?_
  have hB := Below.refl w.heap.size w
  repeat with_reducible refine wp_seq ?_
  refine' reg_all hF ?_ mixed (by kernel_rfl) ?_
  rotate_left
  · repeat (first | exact Line.nil | ((refine' Line.cons rfl (.run rfl rfl ?_) ?_); (any_goals exact cAssign rfl rfl); rotate_left))
  intro a w1 hF hb hN
  have hBs := hB.size
  replace hB := hB.trans (hb.mono hB.size)
  dsimp only [ext, Option.getD] at hF
  repeat with_reducible first | refine wp_seq ?_ | refine nThen ?_
  have hS := h.below hB
  refine' reg_all hF ?_ mixed (by kernel_rfl) ?_
  rotate_left
  · repeat (first | exact Line.nil | ((refine' Line.cons rfl (.run rfl rfl ?_) ?_); (any_goals (first | exact cMove rfl rfl | exact cAssign rfl rfl | exact cNilOk rfl rfl | exact cSd2 rfl rfl | exact cLdSet rfl (.l rfl hS.a4) | exact cCallS1 rfl (.l rfl hS.theirs) hC)); rotate_left))
  intro a w2 hF hb hN
  have hBs := hB.size
  replace hB := hB.trans (hb.mono hB.size)
  dsimp only [ext, Option.getD] at hF
  repeat with_reducible first | refine nThen ?_ | refine wp_ret ?_
  refine ret1 hF rfl rfl fun z hz => ?_
  exact ⟨z, rfl, seg_sl _ _ hz, hB⟩
set_option maxRecDepth 100000 in
theorem ours_ret (h : SideM w g m t o s) (hl : s.ours.length ≤ 1000000) : Ret Tryz.prog 32 #[.pointer (some ⟨g, 0, none⟩)] w (Ty.sums 28 s.ours) := by
  have hC := cloneL_ty s.ours hl
  refine enter_ty 8 [Ty.ex (.pointer (some ⟨g, 0, none⟩))] Tryz.func32 rfl (by kernel_rfl) ⟨rfl, trivial⟩ fun a hF => ?_
  have hB := Below.refl w.heap.size w
  repeat with_reducible refine wp_seq ?_
  refine' reg_all hF ?_ mixed (by kernel_rfl) ?_
  rotate_left
  · repeat (first | exact Line.nil | ((refine' Line.cons rfl (.run rfl rfl ?_) ?_); (any_goals exact cAssign rfl rfl); rotate_left))
  intro a w1 hF hb hN
  have hBs := hB.size
  replace hB := hB.trans (hb.mono hB.size)
  dsimp only [ext, Option.getD] at hF
  repeat with_reducible first | refine wp_seq ?_ | refine nThen ?_
  have hS := h.below hB
  refine' reg_all hF ?_ mixed (by kernel_rfl) ?_
  rotate_left
  · repeat (first | exact Line.nil | ((refine' Line.cons rfl (.run rfl rfl ?_) ?_); (any_goals (first | exact cMove rfl rfl | exact cAssign rfl rfl | exact cNilOk rfl rfl | exact cSd3 rfl rfl | exact cLdSet rfl (.l rfl hS.a5) | exact cCallS1 rfl (.l rfl hS.ours) hC)); rotate_left))
  intro a w2 hF hb hN
  have hBs := hB.size
  replace hB := hB.trans (hb.mono hB.size)
  dsimp only [ext, Option.getD] at hF
  repeat with_reducible first | refine nThen ?_ | refine wp_ret ?_
  refine ret1 hF rfl rfl fun z hz => ?_
  exact ⟨z, rfl, seg_sl _ _ hz, hB⟩
end
end Go.Proofs.YtmefpnklgfhggaaGreatDoor

/- Layer 10: the walks of SetParts, SetLaws. -/
namespace Go.Proofs.YtmefpnklgfhggaaGreatDoor
open Go.RowKit

end Go.Proofs.YtmefpnklgfhggaaGreatDoor

/- Layer 10: the walks of Add, Tell. -/
namespace Go.Proofs.YtmefpnklgfhggaaGreatDoor
open Go.RowKit

/-- The bytes of a row of sums. -/
def byL (L : List Sm) : List Nat := L.flatMap (·.l)
theorem byL_lt (L : List Sm) : ∀ x ∈ byL L, x < 256 := fun x h => by
  obtain ⟨y, _, h2⟩ := List.mem_flatMap.1 h
  exact y.lt x h2
theorem byL_map (L : List Sm) : (byL L).map bv = flat L := by
  unfold byL flat
  rw [List.map_flatMap]
  rfl
theorem byL_len (L : List Sm) : (byL L).length = L.length * 32 := by
  rw [← flat_len, ← byL_map, List.length_map]
set_option maxRecDepth 100000 in
set_option maxHeartbeats 2000000 in
theorem tell_ty (L : List Sm) (hL : L.length ≤ 900000) : Fn1 Tryz.prog 17 (Ty.sums 28 L) (Ty.ex (.agg (u8s (shaS (byL (setL L))).l))) := by
  refine ⟨fun args w => by kernel_rfl, fun w v hv => ?_⟩
  have ho := of_ty L (by omega)
  have hX := setL_len L
  generalize setL L = X at *
  refine enter_ty 20 [Ty.ex v] Tryz.func17 rfl (by kernel_rfl) ⟨rfl, trivial⟩ fun a hF => ?_
  have hB := Below.refl w.heap.size w
  repeat with_reducible first | refine wp_seq ?_ | refine nThen ?_ | refine nBlk ?_ | refine wp_skip ?_ | refine wp_block ?_ | refine wp_exit ?_ | refine xThen ?_ | refine xHere ?_ | refine wp_ret ?_
  refine' reg_all hF ?_ mixed (by kernel_rfl) ?_
  rotate_left
  · repeat (first
        | exact Line.nil
        | (refine' Line.cons rfl (.new rfl rfl (run_alloc_i infoS) rfl) ?_; rotate_left)
        | ((refine' Line.cons rfl (.run rfl rfl ?_) ?_)
           any_goals (first | exact cMove rfl rfl | exact cAssign rfl rfl | exact cLss rfl rfl rfl)
           rotate_left))
  intro a w1 hF hb hN
  have hBs := hB.size
  replace hB := hB.trans (hb.mono hB.size)
  dsimp only [ext, Option.getD] at hF
  repeat with_reducible first | refine wp_seq ?_ | refine nThen ?_ | refine nBlk ?_ | refine wp_skip ?_ | refine wp_block ?_ | refine wp_exit ?_ | refine xThen ?_ | refine xHere ?_ | refine wp_ret ?_
  obtain ⟨z, ⟨g2, rfl, hg2, hb2⟩, hF⟩ := hF.open (s := 2) rfl
  repeat with_reducible first | refine wp_seq ?_ | refine nThen ?_ | refine nBlk ?_ | refine wp_skip ?_ | refine wp_block ?_ | refine wp_exit ?_ | refine xThen ?_ | refine xHere ?_ | refine wp_ret ?_
  refine' reg_all hF ?_ mixed (by kernel_rfl) ?_
  rotate_left
  · repeat (first
        | exact Line.nil
        | ((refine' Line.cons rfl (.run rfl rfl ?_) ?_)
           any_goals (first | exact cMove rfl rfl | exact cAssign rfl rfl | exact cLss rfl rfl rfl)
           rotate_left))
  intro a w2 hF hb hN
  have hBs := hB.size
  replace hB := hB.trans (hb.mono hB.size)
  dsimp only [ext, Option.getD] at hF
  repeat with_reducible first | refine wp_seq ?_ | refine nThen ?_ | refine nBlk ?_ | refine wp_skip ?_ | refine wp_block ?_ | refine wp_exit ?_ | refine xThen ?_ | refine xHere ?_ | refine wp_ret ?_
  have hv1 := (Ty.sums 28 L).below hv hB
  replace hb2 := hb2.below hb
  refine' reg_all hF ?_ mixed (by kernel_rfl) ?_
  rotate_left
  · repeat (first
        | exact Line.nil
        | ((refine' Line.cons rfl (.run rfl rfl ?_) ?_)
           any_goals (first | exact cMove rfl rfl | exact cAssign rfl rfl | exact cCallS1 rfl (.l rfl hv1) ho | exact cLenH rfl (.t rfl) (Ty.seg_isSl _ _ _ _ _) Tryz.underlying30 | exact cLss rfl rfl rfl)
           rotate_left))
  intro a w3 hF hb hN
  have hBs := hB.size
  replace hB := hB.trans (hb.mono hB.size)
  dsimp only [ext, Option.getD] at hF
  repeat with_reducible first | refine wp_seq ?_ | refine nThen ?_ | refine nBlk ?_ | refine wp_skip ?_ | refine wp_block ?_ | refine wp_exit ?_ | refine xThen ?_ | refine xHere ?_ | refine wp_ret ?_
  replace hb2 := hb2.below hb
  obtain ⟨v7, ⟨S7, hs7, hS7⟩, hF⟩ := hF.open (s := 7) rfl
  refine loop_ty (fun m a wr => ∃ (k : Nat) (u : Value) (S : List Nat), k + m = X.length ∧ Fr 20 [(2, Ty.ex (.pointer (some ⟨g2, 0, none⟩))), (3, Ty.ex u), (7, Ty.ex v7), (8, Ty.ex (.int .i64 (X.length : Int))), (9, Ty.ex (.int .i64 (k : Int)))] a wr ∧ Below w.heap.size w wr ∧
      Blk wr g2 28 (u8s (List.replicate 32 0)) ∧ Seg wr 28 32 v7 X.length (flat X) S7 ∧ Seg wr 5 1 u (k * 32) (flat (X.take k)) S ∧ ∀ y ∈ S, w.heap.size ≤ y) X.length ?_ ?_
  · exact ⟨0, _, [], by omega, hF.keep [2, 3, 7, 8, 9], hB, hb2, hs7, Seg.nil _ _ _, by simp⟩
  clear hF hB hb2 hs7
  rintro m a wr ⟨k, u, S, hk, hF, hB, hb2, hs7, hseg, hS⟩
  repeat with_reducible first | refine wp_seq ?_ | refine nThen ?_ | refine nBlk ?_ | refine wp_skip ?_ | refine wp_block ?_ | refine wp_exit ?_ | refine xThen ?_ | refine xHere ?_ | refine wp_ret ?_
  refine' reg_all hF ?_ mixed (by kernel_rfl) ?_
  rotate_left
  · repeat (first
        | exact Line.nil
        | ((refine' Line.cons rfl (.run rfl rfl ?_) ?_)
           any_goals (first | exact cMove rfl rfl | exact cAssign rfl rfl | exact cLss rfl rfl rfl)
           rotate_left))
  intro a w4 hF hb hN
  have hBs := hB.size
  replace hB := hB.trans (hb.mono hB.size)
  dsimp only [ext, Option.getD] at hF
  repeat with_reducible first | refine wp_seq ?_ | refine nThen ?_ | refine nBlk ?_ | refine wp_skip ?_ | refine wp_block ?_ | refine wp_exit ?_ | refine xThen ?_ | refine xHere ?_ | refine wp_ret ?_
  replace hb2 := hb2.below hb
  replace hs7 := hs7.below hb
  replace hseg := hseg.below hb
  have hB4 := hB.size
  refine cond_ty hF rfl (fun hlt => ?_) (fun hge => ?_)
  · have hlt : k < X.length := by have := of_decide_eq_true hlt; omega
    have hsl7 : (Ty.sums 28 X).p w4 v7 := hs7.sl
    have hlt7 : ∀ y ∈ S7, y < w4.heap.size := fun y hy => hs7.lt y hy
    have hlt2 := hb2.lt
    have hltS : ∀ y ∈ S, y < w4.heap.size := fun y hy => hseg.lt y hy
    repeat with_reducible first | refine wp_seq ?_ | refine nThen ?_ | refine nBlk ?_ | refine wp_skip ?_ | refine wp_block ?_ | refine wp_exit ?_ | refine xThen ?_ | refine xHere ?_ | refine wp_ret ?_
    refine' region_ty 3 mixed (by kernel_rfl) hF ?_ ?_
    rotate_left
    · simp only [List.take_succ_cons, List.take_zero]
      repeat (first
          | exact Line.nil
          | (refine' Line.cons rfl (.new rfl rfl (run_alloc_i infoS) rfl) ?_; rotate_left)
          | ((refine' Line.cons rfl (.run rfl rfl ?_) ?_)
             any_goals (first | exact cMove rfl rfl | exact cAssign rfl rfl | exact cIndexSum (L := X) (k := k) rfl (.l rfl hsl7) rfl Tryz.underlying30 sizeS hlt | exact cLoadSum rfl (.t rfl) Tryz.underlying28 sizeS | exact cLss rfl rfl rfl)
             rotate_left))
    intro a w5 hF hb hN
    have hBs := hB.size
    replace hB := hB.trans (hb.mono hB.size)
    simp only [List.take_succ_cons, List.take_zero, List.drop_succ_cons, List.drop_zero] at hF hN ⊢
    dsimp only [ext, Option.getD] at hF
    obtain ⟨z, ⟨gx, rfl, hgx, hbx⟩, hF⟩ := hF.open (s := 5) rfl
    have hgx : w4.heap.size ≤ gx := hgx
    refine tlStoreV (Δ := [(2, Ty.ex (.pointer (some ⟨g2, 0, none⟩))), (3, Ty.ex u), (5, Ty.ex (.pointer (some ⟨gx, 0, none⟩))), (7, Ty.ex v7), (8, Ty.ex (.int .i64 (X.length : Int))), (9, Ty.ex (.int .i64 (k : Int)))]) hF rfl rfl rfl rfl (hF.getEx (s := 12) rfl) hbx (by show (u8s _).size = (u8s _).size; rw [u8s_size, u8s_size, Sm.len]; rfl) (by show _ = some (u8s _).size; rw [u8s_size, Sm.len]; exact sizeS) (u8s_one _) (hF.keep [2, 3, 5, 7, 8, 9]) rfl ?_
    intro w6 hF hbx hkx
    refine wpList_nil ?_
    repeat with_reducible first | refine wp_seq ?_ | refine nThen ?_ | refine nBlk ?_ | refine wp_skip ?_ | refine wp_block ?_ | refine wp_exit ?_ | refine xThen ?_ | refine xHere ?_ | refine wp_ret ?_
    replace hb2 := (hb2.below hb).keeps hkx (by simp; omega)
    replace hs7 := (hs7.below hb).keeps hkx (by intro y hy hm; simp only [List.mem_singleton] at hm; have := hlt7 y hy; omega)
    replace hseg := (hseg.below hb).keeps hkx (by intro y hy hm; simp only [List.mem_singleton] at hm; have := hltS y hy; omega)
    replace hB := below_own hB hkx (by intro y hy; simp only [List.mem_singleton] at hy; omega)
    have hax : (Ty.at_ 28 (X.getD k default).enc).p w6 (.pointer (some ⟨gx, 0, none⟩)) := by
      have h := blk_at hbx
      rwa [show (Value.agg (u8s (X.getD k default).l)).cells.toList = (X.getD k default).enc from u8s_list _] at h
    refine' region_ty 2 mixed (by kernel_rfl) hF ?_ ?_
    rotate_left
    · simp only [List.take_succ_cons, List.take_zero]
      repeat (first
          | exact Line.nil
          | ((refine' Line.cons rfl (.run rfl rfl ?_) ?_)
             any_goals (first | exact cMove rfl rfl | exact cAssign rfl rfl | exact cSliceArr rfl (.l rfl hax) Tryz.underlying28 sizeU (by simp [maxLen]) | exact cLss rfl rfl rfl)
             rotate_left))
    intro a w7 hF hb hN
    have hBs := hB.size
    replace hB := hB.trans (hb.mono hB.size)
    simp only [List.take_succ_cons, List.take_zero, List.drop_succ_cons, List.drop_zero] at hF hN ⊢
    dsimp only [ext, Option.getD] at hF
    replace hb2 := hb2.below hb
    replace hs7 := hs7.below hb
    replace hseg := hseg.below hb
    refine tlAppend (Δ := [(2, Ty.ex (.pointer (some ⟨g2, 0, none⟩))), (7, Ty.ex v7), (8, Ty.ex (.int .i64 (X.length : Int))), (9, Ty.ex (.int .i64 (k : Int)))]) (n := k * 32) hF rfl rfl rfl rfl Tryz.underlying95 infoU8 rfl rfl hseg (.t rfl) sl_news (enc_len _) (enc_one _) (by simp [maxLen]; omega) (by omega) (hF.keep [2, 7, 8, 9]) rfl ?_
    intro a w8 u' S' hF hseg' hk8 hS'
    have hbS : ∀ y ∈ S', w.heap.size ≤ y := own_next hB hS hS'
    have hne2 : g2 ∉ S := fun hm => absurd hb2 (by
      have := hseg.blocks g2 hm hb2.lt
      intro hb2
      obtain ⟨cs, fr, h⟩ := this
      unfold Blk at hb2
      rw [hb2] at h
      injection h with h
      injection h with _ h
      revert h
      decide)
    have hne7 : ∀ y ∈ S7, y ∉ S := fun y hy hm => by
      obtain ⟨cs, fr, h⟩ := hseg.blocks y hm (hseg.lt y hm)
      obtain ⟨cs', fr', h'⟩ := hs7.blocks y hy (hs7.lt y hy)
      rw [h'] at h
      injection h with h
      injection h with _ h
      revert h
      decide
    replace hb2 := hb2.keeps hk8 hne2
    replace hs7 := hs7.keeps hk8 hne7
    replace hB := below_own hB hk8 hS
    rw [flat_snoc X hlt] at hseg'
    refine' tlOp hF rfl rfl rfl ?_ ?_
    rotate_left
    · first | exact cMove rfl rfl | exact cAssign rfl rfl | exact cLss rfl rfl rfl
    intro a w9 hF hb
    have hBs := hB.size
    replace hB := hB.trans (hb.mono hB.size)
    try (refine wpList_nil ?_)
    repeat with_reducible first | refine wp_seq ?_ | refine nThen ?_ | refine nBlk ?_ | refine wp_skip ?_ | refine wp_block ?_ | refine wp_exit ?_ | refine xThen ?_ | refine xHere ?_ | refine wp_ret ?_
    refine' reg_all hF ?_ mixed (by kernel_rfl) ?_
    rotate_left
    · repeat (first
          | exact Line.nil
          | ((refine' Line.cons rfl (.run rfl rfl ?_) ?_)
             any_goals (first | exact cMove rfl rfl | exact cAssign rfl rfl | exact cAdd (r := ((k + 1 : Nat) : Int)) rfl rfl rfl (by omega) | exact cLss rfl rfl rfl)
             rotate_left))
    intro a w10 hF hb hN
    have hBs := hB.size
    replace hB := hB.trans (hb.mono hB.size)
    dsimp only [ext, Option.getD] at hF
    repeat with_reducible first | refine wp_seq ?_ | refine nThen ?_ | refine nBlk ?_ | refine wp_skip ?_ | refine wp_block ?_ | refine wp_exit ?_ | refine xThen ?_ | refine xHere ?_ | refine wp_ret ?_
    refine ⟨m - 1, by omega, k + 1, u', S', by omega, hF.keep [2, 3, 7, 8, 9], hB, (hb2.below (by assumption)).below hb, (hs7.below (by assumption)).below hb, ?_, hbS⟩
    rw [Nat.add_mul, Nat.one_mul]
    exact (hseg'.below (by assumption)).below hb
  · have hge : ¬ k < X.length := by have := of_decide_eq_false hge; omega
    obtain rfl : k = X.length := by omega
    rw [List.take_length] at hseg
    have hsb : (Ty.sl 5 (byL X).length ((byL X).map bv)).p w4 u := by rw [byL_map, byL_len]; exact hseg.sl
    repeat with_reducible first | refine wp_seq ?_ | refine nThen ?_ | refine nBlk ?_ | refine wp_skip ?_ | refine wp_block ?_ | refine wp_exit ?_ | refine xThen ?_ | refine xHere ?_ | refine wp_ret ?_
    refine' region_ty 3 mixed (by kernel_rfl) hF ?_ ?_
    rotate_left
    · simp only [List.take_succ_cons, List.take_zero]
      repeat (first
          | exact Line.nil
          | ((refine' Line.cons rfl (.run rfl rfl ?_) ?_)
             any_goals (first | exact cMove rfl rfl | exact cAssign rfl rfl | exact cBuildT (τs := [Ty.sl 5 (byL X).length ((byL X).map bv)]) rfl (partsT1 rfl (.l rfl hsb) (Ty.sl_isSl _ _ _)) Tryz.underlying123 infoB rfl | exact cCall1 rfl rfl (sumOf1_ty (byL X) (reads_bytes _ _) (byL_lt X) (by rw [byL_len]; omega)) | exact cLss rfl rfl rfl)
             rotate_left))
    intro a w5 hF hb hN
    have hBs := hB.size
    replace hB := hB.trans (hb.mono hB.size)
    simp only [List.take_succ_cons, List.take_zero, List.drop_succ_cons, List.drop_zero] at hF hN ⊢
    dsimp only [ext, Option.getD] at hF
    replace hb2 := hb2.below hb
    refine tlStoreV (Δ := [(2, Ty.ex (.pointer (some ⟨g2, 0, none⟩)))]) hF rfl rfl rfl rfl (hF.getEx (s := 19) rfl) hb2 (by show (u8s _).size = (u8s _).size; rw [u8s_size, u8s_size, shaL_len]; rfl) (by show _ = some (u8s _).size; rw [u8s_size, shaL_len]; exact sizeS) (u8s_one _) (hF.keep [2]) rfl ?_
    intro w6 hF hb2 hk6
    refine wpList_nil ?_
    repeat with_reducible first | refine wp_seq ?_ | refine nThen ?_ | refine nBlk ?_ | refine wp_skip ?_ | refine wp_block ?_ | refine wp_exit ?_ | refine xThen ?_ | refine xHere ?_ | refine wp_ret ?_
    have hg2 : w.heap.size ≤ g2 := hg2
    refine retCell hF rfl rfl hb2 Tryz.underlying28 rfl (by show _ = some (u8s _).size; rw [u8s_size, shaL_len]; exact sizeS) ?_
    exact ⟨_, rfl, rfl, below_own hB hk6 (by simpa using hg2)⟩
end Go.Proofs.YtmefpnklgfhggaaGreatDoor

/- Recon by types: Strata, end, Table, List. -/
namespace Go.Proofs.YtmefpnklgfhggaaGreatDoor
open Go.RowKit

def tellS (X : List Sm) : Sm := shaS (byL (setL X))
theorem u64_succ (n : Nat) : IntKind.u64.wrap ((n : Int) + 1) = (((n + 1) % 18446744073709551616 : Nat) : Int) := by
  rw [IntKind.wrap_u64]
  omega
/-- A store into a side. -/
theorem SideM.put {w w' : World} {g : Nat} {m t o t' o' : Value} {s s' : Sd} (h : SideM w g m t o s) (k : Keeps [g] w w') (hb : Blk w' g SideT (sdCs m t' o' s')) (hm : s'.mine = s.mine) (ht : (Ty.sums 28 s'.theirs).p w t') (ho : (Ty.sums 28 s'.ours).p w o') : SideM w' g m t' o' s' := ⟨hb, by rw [hm]; exact (Ty.sums 28 _).far h.mine k h.blk rfl, (Ty.sums 28 _).far ht k h.blk rfl, (Ty.sums 28 _).far ho k h.blk rfl⟩
theorem keeps_below {w w1 w' : World} {g : Nat} (hb : Below w.heap.size w w1) (k : Keeps [g] w1 w') : Keeps [g] w w' := (Keeps.of_below (S := [g]) hb).trans k
section
variable {w : World} {g : Nat} {m t o : Value} {s : Sd}
def Sd.st1 (s : Sd) (A : List (List Cl)) : Sd := { s with kind := 2, n := cellsN (difGo s.seed A (stL s.seed s.mine) 10 0 : Nat), seed := (s.seed + 1) % 18446744073709551616, rounds := s.rounds + 1 }
def Sd.stOk (s : Sd) (sd : Nat) (A : List (List Cl)) : Bool := decide (s.kind = 1) && (goodSt A && decide (sd = s.seed))
def Sd.stE (s : Sd) (sd : Nat) (A : List (List Cl)) : Int := if s.kind = 1 then (if goodSt A && decide (sd = s.seed) then 0 else 1) else 5
def Sd.stS (s : Sd) (sd : Nat) (A : List (List Cl)) : Sd := if s.stOk sd A then s.st1 A else s
set_option maxRecDepth 100000 in
set_option maxHeartbeats 2000000 in
theorem strata_acts (h : SideM w g m t o s) (hT : TabOk w) (sd : Nat) (A : List (List Cl)) {x : Value} (hx : (Ty.stra 40 69 sd A).p w x) (hM : s.mine.length ≤ 1000000) (hA : A.length ≤ 1000000) (hsd : s.seed < 18446744073709551616) (hr : s.rounds ≤ 1000000) : Calls Tryz.prog 14 #[.pointer (some ⟨g, 0, none⟩), x] w fun e w' => e = .returned (.int .i64 (s.stE sd A)) ∧ SideM w' g m t o (s.stS sd A) ∧ Keeps [g] w w' := by
  obtain ⟨s1, rfl, hs1⟩ := hx
  let TL := Ty.tabs 40 69 sd A
  let TP := Ty.straP StT 40 69 sd A
  refine enter_ty 50 [Ty.ex (.pointer (some ⟨g, 0, none⟩)), Ty.ex (.agg #[.int .u64 (sd : Int), s1])] Tryz.func14 rfl (by kernel_rfl) ⟨rfl, rfl, trivial⟩ fun a hF => ?_
  have hB := Below.refl w.heap.size w
  repeat with_reducible refine wp_seq ?_
  refine' reg_all hF ?_ mixed (by kernel_rfl) ?_
  rotate_left
  · repeat (first | exact Line.nil | ((refine' Line.cons rfl (.run rfl rfl ?_) ?_); (any_goals (first | exact cAssign rfl rfl | exact cBoxTab rfl rfl)); rotate_left))
  intro a w1 hF hb hN
  have hBs := hB.size
  replace hB := hB.trans (hb.mono hB.size)
  dsimp only [ext, Option.getD] at hF
  repeat with_reducible first | refine wp_seq ?_ | refine nThen ?_
  obtain ⟨p3, hp3, hF⟩ := hF.open (s := 3) rfl
  have hp3 : TP.p w1 p3 := ⟨s1, hp3, TL.below hs1 hB⟩
  have hS := h.below hB
  by_cases hk : s.kind = 1
  rotate_left
  · have e1 : s.stE sd A = 5 := by unfold Sd.stE; rw [if_neg hk]
    have e2 : s.stS sd A = s := by unfold Sd.stS Sd.stOk; rw [decide_eq_false hk]; rfl
    rw [e1, e2]
    refine' reg_all hF ?_ mixed (by kernel_rfl) ?_
    rotate_left
    · repeat (first | exact Line.nil | ((refine' Line.cons rfl (.run rfl rfl ?_) ?_); (any_goals (first | exact cMove rfl rfl | exact cNilOk rfl rfl | exact cSd1 rfl rfl | exact cAk0 rfl rfl | exact cLdInt rfl (.l rfl hS.a1) | exact OpOk.b (c := true) (cNeq rfl rfl rfl) (by rw [decide_eq_false hk]; rfl))); rotate_left))
    intro a w2 hF hb hN
    have hBs := hB.size
    replace hB := hB.trans (hb.mono hB.size)
    dsimp only [ext, Option.getD] at hF
    repeat with_reducible refine nThen ?_
    refine cond_t hF rfl ?_
    repeat with_reducible refine wp_seq ?_
    refine' reg_all hF ?_ mixed (by kernel_rfl) ?_
    rotate_left
    · repeat (first | exact Line.nil | ((refine' Line.cons rfl (.run rfl rfl ?_) ?_); (any_goals exact cAssign rfl rfl); rotate_left))
    intro a w3 hF hb hN
    have hBs := hB.size
    replace hB := hB.trans (hb.mono hB.size)
    dsimp only [ext, Option.getD] at hF
    repeat with_reducible first | refine nThen ?_ | refine wp_ret ?_ | refine rThen ?_
    refine ret1 hF rfl rfl fun z hz => ?_
    exact ⟨by rw [show z = _ from hz], h.below hB, Keeps.of_below hB⟩
  refine' reg_all hF ?_ mixed (by kernel_rfl) ?_
  rotate_left
  · repeat (first | exact Line.nil | ((refine' Line.cons rfl (.run rfl rfl ?_) ?_); (any_goals (first | exact cMove rfl rfl | exact cNilOk rfl rfl | exact cSd1 rfl rfl | exact cAk0 rfl rfl | exact cLdInt rfl (.l rfl hS.a1) | exact OpOk.b (c := false) (cNeq rfl rfl rfl) (by rw [decide_eq_true hk]; rfl))); rotate_left))
  intro a w2 hF hb hN
  have hBs := hB.size
  replace hB := hB.trans (hb.mono hB.size)
  dsimp only [ext, Option.getD] at hF
  repeat with_reducible refine nThen ?_
  refine cond_f hF rfl ?_
  repeat with_reducible first | refine wp_seq ?_ | refine nThen ?_ | refine wp_skip ?_
  replace hS := hS.below hb
  replace hp3 := TP.below hp3 hb
  have o1 := stof_hc s.seed s.mine hM hsd
  have hT2 := hT.below hB
  cases hok : goodSt A && decide (sd = s.seed) with
  | false =>
    have e1 : s.stE sd A = 1 := by unfold Sd.stE; rw [if_pos hk, hok]; rfl
    have e2 : s.stS sd A = s := by unfold Sd.stS Sd.stOk; rw [hok, Bool.and_false]; rfl
    rw [e1, e2]
    have dC := differ_bad sd s.seed A (stL s.seed s.mine) hA (by rw [stL_len]; omega) (by rw [stL_good, Bool.and_true]; exact hok)
    refine' reg_all hF ?_ mixed (by kernel_rfl) ?_
    rotate_left
    · repeat (first | exact Line.nil | ((refine' Line.cons rfl (.run rfl rfl ?_) ?_); (any_goals (first | exact cMove rfl rfl | exact cAssign rfl rfl | exact cNilOk rfl rfl | exact cSd0 rfl rfl | exact cSd1 rfl rfl | exact cAk2 rfl rfl | exact cLdSet rfl (.l rfl hS.a0) | exact cLdU64 rfl (.l rfl hS.a3) | exact cLoadStA rfl (.l rfl hp3) | exact cCallT2 rfl (.t rfl) (.l rfl hS.mine) hT2 enOf o1 | exact cCallH2 rfl (.t rfl) (.t rfl) dC | exact cExtract rfl rfl rfl)); rotate_left))
    intro a w3 hF hb hN
    have hBs := hB.size
    replace hB := hB.trans (hb.mono hB.size)
    dsimp only [ext, Option.getD] at hF
    repeat with_reducible first | refine wp_seq ?_ | refine nThen ?_
    refine' reg_all hF ?_ mixed (by kernel_rfl) ?_
    rotate_left
    · repeat (first | exact Line.nil | ((refine' Line.cons rfl (.run rfl rfl ?_) ?_); (any_goals (first | exact cMove rfl rfl | exact OpOk.b (c := true) (cNeq rfl rfl rfl) rfl)); rotate_left))
    intro a w4 hF hb hN
    have hBs := hB.size
    replace hB := hB.trans (hb.mono hB.size)
    dsimp only [ext, Option.getD] at hF
    repeat with_reducible refine nThen ?_
    refine cond_t hF rfl ?_
    repeat with_reducible refine wp_seq ?_
    refine' reg_all hF ?_ mixed (by kernel_rfl) ?_
    rotate_left
    · repeat (first | exact Line.nil | ((refine' Line.cons rfl (.run rfl rfl ?_) ?_); (any_goals (first | exact cMove rfl rfl | exact cAssign rfl rfl)); rotate_left))
    intro a w5 hF hb hN
    have hBs := hB.size
    replace hB := hB.trans (hb.mono hB.size)
    dsimp only [ext, Option.getD] at hF
    repeat with_reducible first | refine nThen ?_ | refine wp_ret ?_ | refine rThen ?_
    refine ret1 hF rfl rfl fun z hz => ?_
    exact ⟨by rw [show z = _ from hz], h.below hB, Keeps.of_below hB⟩
  | true =>
    have e1 : s.stE sd A = 0 := by unfold Sd.stE; rw [if_pos hk, hok]; rfl
    have e2 : s.stS sd A = s.st1 A := by unfold Sd.stS Sd.stOk; rw [hok, decide_eq_true hk]; rfl
    rw [e1, e2]
    rw [Bool.and_eq_true] at hok
    obtain ⟨hg, hse⟩ := hok
    have hse : sd = s.seed := of_decide_eq_true hse
    have dC := differ_ty sd A (stL s.seed s.mine) (by omega) hg (stL_good _ _)
    have cC := cells_ty (difGo sd A (stL s.seed s.mine) 10 0 : Nat)
    obtain ⟨d, hd⟩ : ∃ d, difGo sd A (stL s.seed s.mine) 10 0 = d := ⟨_, rfl⟩
    have e3 : s.st1 A = { s with kind := 2, n := cellsN (d : Int), seed := (s.seed + 1) % 18446744073709551616, rounds := s.rounds + 1 } := by unfold Sd.st1; rw [← hd, hse]
    rw [e3]
    rw [hd] at dC cC
    rw [hse] at dC
    clear e1 e2 e3 hd
    have hTS : (Ty.straP StT 40 69 s.seed A).p w2 p3 := by rw [← hse]; exact hp3
    refine' reg_all hF ?_ mixed (by kernel_rfl) ?_
    rotate_left
    · repeat (first | exact Line.nil | ((refine' Line.cons rfl (.run rfl rfl ?_) ?_); (any_goals (first | exact cMove rfl rfl | exact cAssign rfl rfl | exact cNilOk rfl rfl | exact cSd0 rfl rfl | exact cSd1 rfl rfl | exact cAk2 rfl rfl | exact cLdSet rfl (.l rfl hS.a0) | exact cLdU64 rfl (.l rfl hS.a3) | exact cLoadStA rfl (.l rfl hTS) | exact cCallT2 rfl (.t rfl) (.l rfl hS.mine) hT2 enOf o1 | exact cCallH2 rfl (.t rfl) (.t rfl) dC | exact cExtract rfl rfl rfl)); rotate_left))
    intro a w3 hF hb hN
    have hBs := hB.size
    replace hB := hB.trans (hb.mono hB.size)
    dsimp only [ext, Option.getD] at hF
    repeat with_reducible first | refine wp_seq ?_ | refine nThen ?_
    replace hS := hS.below hb
    refine' reg_all hF ?_ mixed (by kernel_rfl) ?_
    rotate_left
    · repeat (first | exact Line.nil | ((refine' Line.cons rfl (.run rfl rfl ?_) ?_); (any_goals (first | exact cMove rfl rfl | exact OpOk.b (c := false) (cNeq rfl rfl rfl) rfl)); rotate_left))
    intro a w4 hF hb hN
    have hBs := hB.size
    replace hB := hB.trans (hb.mono hB.size)
    dsimp only [ext, Option.getD] at hF
    repeat with_reducible refine nThen ?_
    replace hS := hS.below hb
    refine cond_f hF rfl ?_
    repeat with_reducible first | refine wp_seq ?_ | refine nThen ?_ | refine wp_skip ?_
    refine' region_ty 7 mixed (by kernel_rfl) hF ?_ ?_
    rotate_left
    · simp only [List.take_succ_cons, List.take_zero]
      repeat (first | exact Line.nil | ((refine' Line.cons rfl (.run rfl rfl ?_) ?_); (any_goals (first | exact cMove rfl rfl | exact cNilOk rfl rfl | exact cSd4 rfl rfl | exact cLdInt rfl (.l rfl hS.a6) | exact cAdd (r := ((s.rounds + 1 : Nat) : Int)) rfl rfl rfl (by omega))); rotate_left))
    intro a w5 hF hb hN
    have hBs := hB.size
    replace hB := hB.trans (hb.mono hB.size)
    simp only [List.take_succ_cons, List.take_zero, List.drop_succ_cons, List.drop_zero] at hF hN ⊢
    dsimp only [ext, Option.getD] at hF
    replace hS := hS.below hb
    refine tlStoreF (k := 6) (v := .int .i64 ((s.rounds + 1 : Nat) : Int)) (Δ := [(0, Ty.ex (.pointer (some ⟨g, 0, none⟩))), (5, Ty.ex (.int .i64 (d : Int)))]) hF rfl rfl rfl rfl (hF.getEx (s := 35) rfl) hS.blk (by simp [sdCs, Value.cells]) sizeIntR (by simp [Value.cells, Value.oneCell']) (hF.keep [0, 5]) rfl ?_
    intro w6 hF hb6 hk6
    refine wpList_nil ?_
    have hK := keeps_below hB hk6
    have hS6 : SideM w6 g m t o { s with rounds := s.rounds + 1 } := hS.put hk6 hb6 rfl hS.theirs hS.ours
    clear hS hb6 hk6 hB
    have hS := hS6
    have hB := Below.refl w6.heap.size w6
    repeat with_reducible first | refine wp_seq ?_ | refine nThen ?_
    refine' region_ty 12 mixed (by kernel_rfl) hF ?_ ?_
    rotate_left
    · simp only [List.take_succ_cons, List.take_zero]
      repeat (first | exact Line.nil | ((refine' Line.cons rfl (.run rfl rfl ?_) ?_); (any_goals (first | exact cMove rfl rfl | exact cNilOk rfl rfl | exact cSd1 rfl rfl | exact cAk2 rfl rfl | exact cLdU64 rfl (.l rfl hS.a3) | exact cCall1 rfl rfl cC | exact OpOk.v (cAddW rfl rfl rfl) (congrArg (Value.int .u64) (u64_succ _)) | exact cBuildN3 rfl rfl rfl rfl (fun w => buildAsk3 _ _ _ w))); rotate_left))
    intro a w7 hF hb hN
    have hBs := hB.size
    replace hB := hB.trans (hb.mono hB.size)
    simp only [List.take_succ_cons, List.take_zero, List.drop_succ_cons, List.drop_zero] at hF hN ⊢
    dsimp only [ext, Option.getD] at hF
    replace hS := hS.below hb
    refine tlStoreF (k := 1) (v := .agg #[.int .i64 2, .int .i64 (cellsN (d : Int)), .int .u64 (((s.seed + 1) % 18446744073709551616 : Nat) : Int)]) (Δ := []) hF rfl rfl rfl rfl (hF.getEx (s := 47) rfl) hS.blk (by simp [sdCs, Value.cells]) sizeAsk (by simp [Value.cells, Value.oneCell']) (hF.keep []) rfl ?_
    intro w8 hF hb8 hk8
    refine wpList_nil ?_
    replace hK := hK.trans (keeps_below hB hk8)
    have hS8 : SideM w8 g m t o { s with kind := 2, n := cellsN (d : Int), seed := (s.seed + 1) % 18446744073709551616, rounds := s.rounds + 1 } := hS.put hk8 hb8 rfl hS.theirs hS.ours
    clear hS hb8 hk8 hB
    have hB := Below.refl w8.heap.size w8
    repeat with_reducible first | refine wp_seq ?_ | refine nThen ?_
    refine' reg_all hF ?_ mixed (by kernel_rfl) ?_
    rotate_left
    · repeat (first | exact Line.nil | ((refine' Line.cons rfl (.run rfl rfl ?_) ?_); (any_goals exact cAssign rfl rfl); rotate_left))
    intro a w9 hF hb hN
    have hBs := hB.size
    replace hB := hB.trans (hb.mono hB.size)
    dsimp only [ext, Option.getD] at hF
    repeat with_reducible first | refine nThen ?_ | refine wp_ret ?_
    refine ret1 hF rfl rfl fun z hz => ?_
    exact ⟨by rw [show z = _ from hz], hS8.below hB, hK.trans (Keeps.of_below hB)⟩
def Sd.fin (s : Sd) (T O : List Sm) : Sd := { s with kind := 0, n := 0, seed := 0, theirs := T, ours := O }
set_option maxRecDepth 100000 in
set_option maxHeartbeats 2000000 in
theorem end_acts (h : SideM w g m t o s) (T O : List Sm) {v1 v2 : Value} (h1 : (Ty.sums 28 T).p w v1) (h2 : (Ty.sums 28 O).p w v2) : Calls Tryz.prog 41 #[.pointer (some ⟨g, 0, none⟩), v1, v2] w fun e w' => e = .returned (.tuple #[]) ∧ SideM w' g m v1 v2 (s.fin T O) ∧ Keeps [g] w w' := by
  have c1 := sl_isA h1
  have c2 := sl_isA h2
  refine enter_ty 18 [Ty.ex (.pointer (some ⟨g, 0, none⟩)), Ty.ex v1, Ty.ex v2] Tryz.func41 rfl (by kernel_rfl) ⟨rfl, rfl, rfl, trivial⟩ fun a hF => ?_
  have hB := Below.refl w.heap.size w
  refine wp_region_lit ?_
  refine' tlOp hF rfl rfl rfl ?_ ?_
  rotate_left
  · exact cMove rfl rfl
  intro a w1_0 hF hb
  have hBs := hB.size
  replace hB := hB.trans (hb.mono hB.size)
  try (refine wpList_nil ?_)
  refine' tlOp hF rfl rfl rfl ?_ ?_
  rotate_left
  · exact cMove rfl rfl
  intro a w1_1 hF hb
  have hBs := hB.size
  replace hB := hB.trans (hb.mono hB.size)
  try (refine wpList_nil ?_)
  refine' tlOp hF rfl rfl rfl ?_ ?_
  rotate_left
  · exact cMove rfl rfl
  intro a w1_2 hF hb
  have hBs := hB.size
  replace hB := hB.trans (hb.mono hB.size)
  try (refine wpList_nil ?_)
  refine' tlOp hF rfl rfl rfl ?_ ?_
  rotate_left
  · exact cMove rfl rfl
  intro a w1_3 hF hb
  have hBs := hB.size
  replace hB := hB.trans (hb.mono hB.size)
  try (refine wpList_nil ?_)
  refine' tlOp hF rfl rfl rfl ?_ ?_
  rotate_left
  · exact cMove rfl rfl
  intro a w1_4 hF hb
  have hBs := hB.size
  replace hB := hB.trans (hb.mono hB.size)
  try (refine wpList_nil ?_)
  refine' tlOp hF rfl rfl rfl ?_ ?_
  rotate_left
  · exact cBuildE rfl (fun w => buildAsk0 w)
  intro a w1_5 hF hb
  have hBs := hB.size
  replace hB := hB.trans (hb.mono hB.size)
  try (refine wpList_nil ?_)
  refine' tlOp hF rfl rfl rfl ?_ ?_
  rotate_left
  · exact cNilOk rfl rfl
  intro a w1_6 hF hb
  have hBs := hB.size
  replace hB := hB.trans (hb.mono hB.size)
  try (refine wpList_nil ?_)
  refine' tlOp hF rfl rfl rfl ?_ ?_
  rotate_left
  · exact cSd2 rfl rfl
  intro a w1 hF hb
  have hBs := hB.size
  replace hB := hB.trans (hb.mono hB.size)
  try (refine wpList_nil ?_)
  have hS := h.below hB
  have h1 := (Ty.sums 28 T).below h1 hB
  have h2 := (Ty.sums 28 O).below h2 hB
  have hc1 := sl_cells c1
  have hc2 := sl_cells c2
  refine tlStoreF (k := 4) (v := v1) (Δ := [(7, Ty.ex (.pointer (some ⟨g, 0, none⟩))), (8, Ty.ex (.pointer (some ⟨g, 0, none⟩))), (10, Ty.ex v2), (11, Ty.ex (.agg #[.int .i64 0, .int .i64 0, .int .u64 0]))]) hF rfl rfl rfl rfl (hF.getEx (s := 9) rfl) hS.blk (by rw [hc1]; simp [sdCs]) (by rw [hc1]; exact sizeSLr) (sl_one1 c1) (hF.keep [7, 8, 10, 11]) rfl ?_
  intro w2 hF hb2 hk2
  rw [hc1] at hb2
  have hS2 : SideM w2 g m v1 o { s with theirs := T } := hS.put hk2 hb2 rfl h1 hS.ours
  have h22 := (Ty.sums 28 O).far h2 hk2 hS.blk rfl
  have hK := keeps_below hB hk2
  clear hS hB hb2 hk2 h1 h2
  have hB := Below.refl w2.heap.size w2
  refine' tlOp hF rfl rfl rfl ?_ ?_
  rotate_left
  · exact cNilOk rfl rfl
  intro a w3 hF hb
  have hBs := hB.size
  replace hB := hB.trans (hb.mono hB.size)
  try (refine wpList_nil ?_)
  have hS := hS2.below hb
  have h2 := (Ty.sums 28 O).below h22 hb
  refine' tlOp hF rfl rfl rfl ?_ ?_
  rotate_left
  · exact cSd3 rfl rfl
  intro a w4 hF hb
  have hBs := hB.size
  replace hB := hB.trans (hb.mono hB.size)
  try (refine wpList_nil ?_)
  replace hS := hS.below hb
  replace h2 := (Ty.sums 28 O).below h2 hb
  refine tlStoreF (k := 5) (v := v2) (Δ := [(8, Ty.ex (.pointer (some ⟨g, 0, none⟩))), (11, Ty.ex (.agg #[.int .i64 0, .int .i64 0, .int .u64 0]))]) hF rfl rfl rfl rfl (hF.getEx (s := 10) rfl) hS.blk (by rw [hc2]; simp [sdCs]) (by rw [hc2]; exact sizeSLr) (sl_one1 c2) (hF.keep [8, 11]) rfl ?_
  intro w5 hF hb5 hk5
  rw [hc2] at hb5
  have hS5 : SideM w5 g m v1 v2 { s with theirs := T, ours := O } := hS.put hk5 hb5 rfl hS.theirs h2
  replace hK := hK.trans (keeps_below hB hk5)
  clear hS hB hb5 hk5 h2 hS2 h22
  have hB := Below.refl w5.heap.size w5
  refine' tlOp hF rfl rfl rfl ?_ ?_
  rotate_left
  · exact cNilOk rfl rfl
  intro a w6 hF hb
  have hBs := hB.size
  replace hB := hB.trans (hb.mono hB.size)
  try (refine wpList_nil ?_)
  have hS := hS5.below hb
  refine' tlOp hF rfl rfl rfl ?_ ?_
  rotate_left
  · exact cSd1 rfl rfl
  intro a w7 hF hb
  have hBs := hB.size
  replace hB := hB.trans (hb.mono hB.size)
  try (refine wpList_nil ?_)
  replace hS := hS.below hb
  refine tlStoreF (k := 1) (v := .agg #[.int .i64 0, .int .i64 0, .int .u64 0]) (Δ := []) hF rfl rfl rfl rfl (hF.getEx (s := 11) rfl) hS.blk (by simp [sdCs, Value.cells]) sizeAsk (by simp [Value.cells, Value.oneCell']) (hF.keep []) rfl ?_
  intro w8 hF hb8 hk8
  refine wpList_nil ?_
  have hS8 : SideM w8 g m v1 v2 (s.fin T O) := hS.put hk8 hb8 rfl hS.theirs hS.ours
  replace hK := hK.trans (keeps_below hB hk8)
  refine ret0 rfl hF.defers ⟨rfl, hS8, hK⟩
end
end Go.Proofs.YtmefpnklgfhggaaGreatDoor

/- Recon by types: Table, List. -/
namespace Go.Proofs.YtmefpnklgfhggaaGreatDoor
open Go.RowKit

theorem fr_side {N : Nat} {Γ : Ctx} {a : Act} {w w' : World} {g : Nat} {m t o : Value} {s : Sd} (hF : Fr N Γ a w) (h : SideM w g m t o s) (k : Keeps [g] w w') (hfree : Γ.free SideT = true) : Fr N Γ a w' := hF.free k (fun b hb _ => by
  simp only [List.mem_singleton] at hb
  subst hb
  exact ⟨_, (0, 0), h.blk⟩) hfree
section
variable {w : World} {g : Nat} {m t o : Value} {s : Sd}
/-- What a table that is wanted tells. -/
def Sd.tbD (s : Sd) (L : List Cl) (all : Sm) : Bool := decide (ownN s.seed L s.mine = 0) && decide (tellS (setL (minusL s.mine (ownQ s.seed L s.mine) ++ ownP s.seed L s.mine)) = all)
def Sd.tbS1 (s : Sd) (L : List Cl) (all : Sm) : Sd :=
  if s.tbD L all then { s with kind := 0, n := 0, seed := 0, theirs := ownP s.seed L s.mine, ours := ownQ s.seed L s.mine, rounds := s.rounds + 1 }
  else if s.n = 1023 then { s with kind := 3, n := 0, seed := 0, rounds := s.rounds + 1 }
  else { s with kind := 2, n := min (2 * s.n) 1023, seed := (s.seed + 1) % 18446744073709551616, rounds := s.rounds + 1 }
def Sd.tbOk (s : Sd) (sd : Nat) (L : List Cl) : Bool := decide ((L.length : Int) = s.n) && decide (sd = s.seed)
def Sd.tbE (s : Sd) (sd : Nat) (L : List Cl) (all : Sm) : Int := if s.kind = 2 then (if s.tbOk sd L then (if s.tbD L all then 0 else 10) else 1) else 5
def Sd.tbS (s : Sd) (sd : Nat) (L : List Cl) (all : Sm) : Sd := if s.kind = 2 then (if s.tbOk sd L then s.tbS1 L all else s) else s
theorem ownP_len (seed : Nat) (L : List Cl) (M : List Sm) : (ownP seed L M).length ≤ 1025 := by
  unfold ownP
  split
  · have := resP_len (seed := seed) (L := ownD seed L M); omega
  · simp
theorem ownQ_len (seed : Nat) (L : List Cl) (M : List Sm) : (ownQ seed L M).length ≤ 1025 := by
  unfold ownQ
  split
  · have := resM_len (seed := seed) (L := ownD seed L M); omega
  · simp
set_option maxRecDepth 100000 in
set_option maxHeartbeats 4000000 in
theorem table_acts (h : SideM w g m t o s) (sd : Nat) (L : List Cl) (all : Sm) {x y : Value} (hx : (Ty.tab 69 sd L).p w x) (hy : y = .agg (u8s all.l)) (hM : s.mine.length ≤ 100000) (hsd : sd < 18446744073709551616) (hr : s.rounds ≤ 1000000) (hn0 : 0 ≤ s.n) (hn1 : s.n ≤ 1000000) : Calls Tryz.prog 12 #[.pointer (some ⟨g, 0, none⟩), x, y] w fun e w' => e = .returned (.int .i64 (s.tbE sd L all)) ∧ (∃ t' o', SideM w' g m t' o' (s.tbS sd L all)) ∧ Keeps [g] w w' := by
  obtain ⟨s1, rfl, hs1⟩ := hx
  subst hy
  let TL := Ty.cls 69 L
  let TP := Ty.at_ 40 [.int .u64 (sd : Int), s1]
  let TX := Ty.at_ 28 all.enc
  refine enter_ty 103 [Ty.ex (.pointer (some ⟨g, 0, none⟩)), Ty.ex (.agg #[.int .u64 (sd : Int), s1]), Ty.ex (.agg (u8s all.l))] Tryz.func12 rfl (by kernel_rfl) ⟨rfl, rfl, rfl, trivial⟩ fun a hF => ?_
  have hB := Below.refl w.heap.size w
  repeat with_reducible refine wp_seq ?_
  refine' reg_all hF ?_ mixed (by kernel_rfl) ?_
  rotate_left
  · repeat (first | exact Line.nil | ((refine' Line.cons rfl (.run rfl rfl ?_) ?_); (any_goals (first | exact cAssign rfl rfl | exact cBoxTab rfl rfl | exact cBoxSum rfl rfl)); rotate_left))
  intro a w1 hF hb hN
  have hBs := hB.size
  replace hB := hB.trans (hb.mono hB.size)
  dsimp only [ext, Option.getD] at hF
  repeat with_reducible first | refine wp_seq ?_ | refine nThen ?_ | refine wp_block ?_
  obtain ⟨p4, hp4, hF⟩ := hF.open (s := 4) rfl
  obtain ⟨p5, hp5, hF⟩ := hF.open (s := 5) rfl
  have hp4 : TP.p w1 p4 := hp4
  have hp5 : TX.p w1 p5 := hp5
  have hsl := TL.below hs1 hB
  have hS := h.below hB
  by_cases hk : s.kind = 2
  rotate_left
  · have e1 : s.tbE sd L all = 5 := by unfold Sd.tbE; rw [if_neg hk]
    have e2 : s.tbS sd L all = s := by unfold Sd.tbS; rw [if_neg hk]
    rw [e1, e2]
    refine' reg_all hF ?_ mixed (by kernel_rfl) ?_
    rotate_left
    · repeat (first | exact Line.nil | ((refine' Line.cons rfl (.run rfl rfl ?_) ?_); (any_goals (first | exact cMove rfl rfl | exact cAssign rfl rfl | exact cNilOk rfl rfl | exact cSd1 rfl rfl | exact cAk0 rfl rfl | exact cLdInt rfl (.l rfl hS.a1) | exact OpOk.b (c := true) (cNeq rfl rfl rfl) (by rw [decide_eq_false hk]; rfl))); rotate_left))
    intro a w2 hF hb hN
    have hBs := hB.size
    replace hB := hB.trans (hb.mono hB.size)
    dsimp only [ext, Option.getD] at hF
    repeat with_reducible refine nThen ?_
    refine cond_t hF rfl ?_
    repeat with_reducible refine wp_seq ?_
    refine' reg_all hF ?_ mixed (by kernel_rfl) ?_
    rotate_left
    · repeat (first | exact Line.nil | ((refine' Line.cons rfl (.run rfl rfl ?_) ?_); (any_goals exact cAssign rfl rfl); rotate_left))
    intro a w3 hF hb hN
    have hBs := hB.size
    replace hB := hB.trans (hb.mono hB.size)
    dsimp only [ext, Option.getD] at hF
    repeat with_reducible first | refine nThen ?_ | refine wp_ret ?_ | refine rThen ?_ | refine rBlk ?_
    refine ret1 hF rfl rfl fun z hz => ?_
    exact ⟨by rw [show z = _ from hz], ⟨_, _, h.below hB⟩, Keeps.of_below hB⟩
  have e1 : s.tbE sd L all = if s.tbOk sd L then (if s.tbD L all then 0 else 10) else 1 := by unfold Sd.tbE; rw [if_pos hk]
  have e2 : s.tbS sd L all = if s.tbOk sd L then s.tbS1 L all else s := by unfold Sd.tbS; rw [if_pos hk]
  rw [e1, e2]
  clear e1 e2
  refine' reg_all hF ?_ mixed (by kernel_rfl) ?_
  rotate_left
  · repeat (first | exact Line.nil | ((refine' Line.cons rfl (.run rfl rfl ?_) ?_); (any_goals (first | exact cMove rfl rfl | exact cAssign rfl rfl | exact cNilOk rfl rfl | exact cSd1 rfl rfl | exact cAk0 rfl rfl | exact cLdInt rfl (.l rfl hS.a1) | exact OpOk.b (c := false) (cNeq rfl rfl rfl) (by rw [decide_eq_true hk]; rfl))); rotate_left))
  intro a w2 hF hb hN
  have hBs := hB.size
  replace hB := hB.trans (hb.mono hB.size)
  dsimp only [ext, Option.getD] at hF
  repeat with_reducible refine nThen ?_
  refine cond_f hF rfl ?_
  repeat with_reducible refine wp_seq ?_
  replace hS := hS.below hb
  replace hp4 := TP.below hp4 hb
  replace hp5 := TX.below hp5 hb
  replace hsl := TL.below hsl hb
  by_cases hl : (L.length : Int) = s.n
  rotate_left
  · have e0 : s.tbOk sd L = false := by unfold Sd.tbOk; rw [decide_eq_false hl]; rfl
    rw [e0]
    refine' reg_all hF ?_ mixed (by kernel_rfl) ?_
    rotate_left
    · repeat (first | exact Line.nil | (refine' Line.cons rfl (.no rfl rfl rfl rfl rfl rfl) ?_; rotate_left) | ((refine' Line.cons rfl (.run rfl rfl ?_) ?_); (any_goals (first | exact cMove rfl rfl | exact cAssign rfl rfl | exact cNilOk rfl rfl | exact cSd1 rfl rfl | exact cAk1 rfl rfl | exact cLdInt rfl (.l rfl hS.a2) | exact cFldL46 rfl (.l rfl hp4) | exact cRowOf46 rfl (.t rfl) | exact cLenH rfl (.l rfl hsl) (Ty.sl_isSl _ _ _) Tryz.underlying38 | exact OpOk.b (c := true) (cNeq rfl rfl rfl) (by rw [decide_eq_false hl]; rfl) | exact cPickT rfl rfl rfl)); rotate_left))
    intro a w3 hF hb hN
    have hBs := hB.size
    replace hB := hB.trans (hb.mono hB.size)
    dsimp only [ext, Option.getD] at hF
    repeat with_reducible refine nThen ?_
    refine cond_t hF rfl ?_
    repeat with_reducible refine wp_seq ?_
    refine' reg_all hF ?_ mixed (by kernel_rfl) ?_
    rotate_left
    · repeat (first | exact Line.nil | ((refine' Line.cons rfl (.run rfl rfl ?_) ?_); (any_goals exact cAssign rfl rfl); rotate_left))
    intro a w4 hF hb hN
    have hBs := hB.size
    replace hB := hB.trans (hb.mono hB.size)
    dsimp only [ext, Option.getD] at hF
    repeat with_reducible first | refine nThen ?_ | refine wp_ret ?_ | refine rThen ?_ | refine rBlk ?_
    refine ret1 hF rfl rfl fun z hz => ?_
    exact ⟨by rw [show z = _ from hz]; try rfl, ⟨_, _, h.below hB⟩, Keeps.of_below hB⟩
  by_cases hse : sd = s.seed
  rotate_left
  · have e0 : s.tbOk sd L = false := by unfold Sd.tbOk; rw [decide_eq_false hse, Bool.and_false]
    rw [e0]
    refine' reg_all hF ?_ mixed (by kernel_rfl) ?_
    rotate_left
    · repeat (first | exact Line.nil | ((first | refine' Line.cons rfl (.run rfl rfl ?_) ?_ | refine' Line.cons rfl (.yes rfl rfl rfl rfl ?_) ?_); (any_goals (first | exact cMove rfl rfl | exact cAssign rfl rfl | exact cNilOk rfl rfl | exact cSd1 rfl rfl | exact cAk1 rfl rfl | exact cAk2 rfl rfl | exact cLdInt rfl (.l rfl hS.a2) | exact cLdU64 rfl (.l rfl hS.a3) | exact cFldL46 rfl (.l rfl hp4) | exact cRowOf46 rfl (.t rfl) | exact cLenH rfl (.l rfl hsl) (Ty.sl_isSl _ _ _) Tryz.underlying38 | exact OpOk.b (c := false) (cNeq rfl rfl rfl) (by rw [decide_eq_true hl]; rfl) | exact cFldS46 rfl (.l rfl hp4) | exact cLoadU64 rfl (.t rfl) | exact OpOk.b (c := true) (cNeq rfl rfl rfl) (by rw [decide_eq_false (show ¬ (sd : Int) = (s.seed : Int) by omega)]; rfl) | exact cPickF rfl rfl rfl)); rotate_left))
    intro a w3 hF hb hN
    have hBs := hB.size
    replace hB := hB.trans (hb.mono hB.size)
    dsimp only [ext, Option.getD] at hF
    repeat with_reducible refine nThen ?_
    refine cond_t hF rfl ?_
    repeat with_reducible refine wp_seq ?_
    refine' reg_all hF ?_ mixed (by kernel_rfl) ?_
    rotate_left
    · repeat (first | exact Line.nil | ((refine' Line.cons rfl (.run rfl rfl ?_) ?_); (any_goals exact cAssign rfl rfl); rotate_left))
    intro a w4 hF hb hN
    have hBs := hB.size
    replace hB := hB.trans (hb.mono hB.size)
    dsimp only [ext, Option.getD] at hF
    repeat with_reducible first | refine nThen ?_ | refine wp_ret ?_ | refine rThen ?_ | refine rBlk ?_
    refine ret1 hF rfl rfl fun z hz => ?_
    exact ⟨by rw [show z = _ from hz]; try rfl, ⟨_, _, h.below hB⟩, Keeps.of_below hB⟩
  have e0 : s.tbOk sd L = true := by unfold Sd.tbOk; rw [decide_eq_true hl, decide_eq_true hse]; rfl
  rw [if_pos e0, if_pos e0]
  clear e0
  refine' reg_all hF ?_ mixed (by kernel_rfl) ?_
  rotate_left
  · repeat (first | exact Line.nil | ((first | refine' Line.cons rfl (.run rfl rfl ?_) ?_ | refine' Line.cons rfl (.yes rfl rfl rfl rfl ?_) ?_); (any_goals (first | exact cMove rfl rfl | exact cAssign rfl rfl | exact cNilOk rfl rfl | exact cSd1 rfl rfl | exact cAk1 rfl rfl | exact cAk2 rfl rfl | exact cLdInt rfl (.l rfl hS.a2) | exact cLdU64 rfl (.l rfl hS.a3) | exact cFldL46 rfl (.l rfl hp4) | exact cRowOf46 rfl (.t rfl) | exact cLenH rfl (.l rfl hsl) (Ty.sl_isSl _ _ _) Tryz.underlying38 | exact OpOk.b (c := false) (cNeq rfl rfl rfl) (by rw [decide_eq_true hl]; rfl) | exact cFldS46 rfl (.l rfl hp4) | exact cLoadU64 rfl (.t rfl) | exact OpOk.b (c := false) (cNeq rfl rfl rfl) (by rw [decide_eq_true (show (sd : Int) = (s.seed : Int) by omega)]; rfl) | exact cPickF rfl rfl rfl)); rotate_left))
  intro a w3 hF hb hN
  have hBs := hB.size
  replace hB := hB.trans (hb.mono hB.size)
  dsimp only [ext, Option.getD] at hF
  repeat with_reducible refine nThen ?_
  refine cond_f hF rfl ?_
  repeat with_reducible first | refine wp_seq ?_ | refine nThen ?_ | refine nBlk ?_ | refine wp_skip ?_
  replace hS := hS.below hb
  replace hp4 := TP.below hp4 hb
  replace hp5 := TX.below hp5 hb
  replace hsl := TL.below hsl hb
  refine' region_ty 7 mixed (by kernel_rfl) hF ?_ ?_
  rotate_left
  · simp only [List.take_succ_cons, List.take_zero]
    repeat (first | exact Line.nil | ((refine' Line.cons rfl (.run rfl rfl ?_) ?_); (any_goals (first | exact cMove rfl rfl | exact cNilOk rfl rfl | exact cSd4 rfl rfl | exact cLdInt rfl (.l rfl hS.a6) | exact cAdd (r := ((s.rounds + 1 : Nat) : Int)) rfl rfl rfl (by omega))); rotate_left))
  intro a w5 hF hb hN
  have hBs := hB.size
  replace hB := hB.trans (hb.mono hB.size)
  simp only [List.take_succ_cons, List.take_zero, List.drop_succ_cons, List.drop_zero] at hF hN ⊢
  dsimp only [ext, Option.getD] at hF
  replace hS := hS.below hb
  replace hp4 := TP.below hp4 hb
  replace hp5 := TX.below hp5 hb
  replace hsl := TL.below hsl hb
  refine tlStoreF (k := 6) (v := .int .i64 ((s.rounds + 1 : Nat) : Int)) (Δ := [(0, Ty.ex (.pointer (some ⟨g, 0, none⟩))), (4, Ty.ex p4), (5, Ty.ex p5)]) hF rfl rfl rfl rfl (hF.getEx (s := 42) rfl) hS.blk (by simp [sdCs, Value.cells]) sizeIntR (by simp [Value.cells, Value.oneCell']) (hF.keep [0, 4, 5]) rfl ?_
  intro w6 hF hb6 hk6
  refine wpList_nil ?_
  have hK := keeps_below hB hk6
  replace hp4 := TP.far hp4 hk6 hS.blk rfl
  replace hp5 := TX.far hp5 hk6 hS.blk rfl
  replace hsl := TL.far hsl hk6 hS.blk rfl
  have hS6 : SideM w6 g m t o { s with rounds := s.rounds + 1 } := hS.put hk6 hb6 rfl hS.theirs hS.ours
  clear hS hb6 hk6 hB h hs1
  have hS := hS6
  clear hS6
  have hB := Below.refl w6.heap.size w6
  have htab : (Ty.tab 69 sd L).p w6 (.agg #[.int .u64 (sd : Int), s1]) := ⟨s1, rfl, hsl⟩
  have hOw := own_ty sd L s.mine (by omega) hsd
  have lP := ownP_len sd L s.mine
  have lQ := ownQ_len sd L s.mine
  have eD : s.tbD L all = (decide (ownN sd L s.mine = 0) && decide (tellS (setL (minusL s.mine (ownQ sd L s.mine) ++ ownP sd L s.mine)) = all)) := by unfold Sd.tbD; rw [hse]
  have eS : s.tbS1 L all = if s.tbD L all then { s with kind := 0, n := 0, seed := 0, theirs := ownP sd L s.mine, ours := ownQ sd L s.mine, rounds := s.rounds + 1 } else if s.n = 1023 then { s with kind := 3, n := 0, seed := 0, rounds := s.rounds + 1 } else { s with kind := 2, n := min (2 * s.n) 1023, seed := (s.seed + 1) % 18446744073709551616, rounds := s.rounds + 1 } := by unfold Sd.tbS1; rw [hse]
  rw [eS]
  clear eS
  generalize ownP sd L s.mine = P at *
  generalize ownQ sd L s.mine = Q at *
  generalize ownN sd L s.mine = en at *
  generalize s.tbD L all = dn at *
  repeat with_reducible first | refine wp_seq ?_ | refine nThen ?_
  refine' reg_all hF ?_ mixed (by kernel_rfl) ?_
  rotate_left
  · repeat (first | exact Line.nil | ((refine' Line.cons rfl (.run rfl rfl ?_) ?_); (any_goals (first | exact cMove rfl rfl | exact cAssign rfl rfl | exact cNilOk rfl rfl | exact cSd0 rfl rfl | exact cLdSet rfl (.l rfl hS.a0) | exact cLoadT46 rfl (.l rfl hp4) | exact cCallH2 rfl (.l rfl htab) (.l rfl hS.mine) hOw | exact cExtract rfl rfl rfl)); rotate_left))
  intro a w7 hF hb hN
  have hBs := hB.size
  replace hB := hB.trans (hb.mono hB.size)
  dsimp only [ext, Option.getD] at hF
  repeat with_reducible first | refine wp_seq ?_ | refine nThen ?_
  obtain ⟨v7, hv7, hF⟩ := hF.open (s := 7) rfl
  obtain ⟨v8, hv8, hF⟩ := hF.open (s := 8) rfl
  have hv7 : (Ty.sums 28 P).p w7 v7 := hv7
  have hv8 : (Ty.sums 28 Q).p w7 v8 := hv8
  replace hS := hS.below hb
  replace hp5 := TX.below hp5 hb
  have hMi := minus_ty s.mine Q (by omega) (by omega)
  have lM := minusL_len s.mine Q
  have hEi := either_ty (minusL s.mine Q) P (by omega) (by omega)
  have lE := setL_len (minusL s.mine Q ++ P)
  rw [List.length_append] at lE
  have hTe := tell_ty (setL (minusL s.mine Q ++ P)) (by omega)
  have eT : shaS (byL (setL (setL (minusL s.mine Q ++ P)))) = tellS (setL (minusL s.mine Q ++ P)) := rfl
  rw [eT] at hTe
  generalize tellS (setL (minusL s.mine Q ++ P)) = tl at *
  generalize setL (minusL s.mine Q ++ P) = E1 at *
  generalize minusL s.mine Q = M1 at *
  refine wp_mono (Q := fun e a w' => e = .normal ∧ Fr 103 [(0, Ty.ex (.pointer (some ⟨g, 0, none⟩))), (7, Ty.ex v7), (8, Ty.ex v8), (69, Ty.ex (.bool dn))] a w' ∧ Below w7.heap.size w7 w') ?_ ?_
  · rename_i _
    replace hB := Below.refl w7.heap.size w7
    by_cases hN : en = 0
    · by_cases hT : tl = all
      · rw [show dn = true by rw [eD, decide_eq_true hN, decide_eq_true hT]; rfl]
        refine' reg_all hF ?_ mixed (by kernel_rfl) ?_
        rotate_left
        · repeat (first | exact Line.nil | ((first | refine' Line.cons rfl (.run rfl rfl ?_) ?_ | refine' Line.cons rfl (.yes rfl rfl rfl rfl ?_) ?_); (any_goals (first | exact cMove rfl rfl | exact cNilOk rfl rfl | exact cSd0 rfl rfl | exact cLdSet rfl (.l rfl hS.a0) | exact OpOk.b (c := true) (cEql rfl rfl rfl) (decide_eq_true hN) | exact cCallS2 rfl (.l rfl hS.mine) (.l rfl hv8) hMi | exact cCallS2 rfl (Has.c (.t rfl) seg_sl) (.l rfl hv7) hEi | exact cCallH1 rfl (Has.c (.t rfl) seg_sl) hTe | exact cLoadSum rfl (.l rfl hp5) Tryz.underlying28 sizeS | exact OpOk.b (c := true) (cEqlAgg rfl rfl rfl guardS (eqlS _ _)) (decide_eq_true hT) | exact cPickT rfl rfl rfl)); rotate_left))
        intro a w8 hF hb hN
        have hBs := hB.size
        replace hB := hB.trans (hb.mono hB.size)
        dsimp only [ext, Option.getD] at hF
        exact ⟨rfl, hF.keep [0, 7, 8, 69], hB⟩
      · rw [show dn = false by rw [eD, decide_eq_false hT, Bool.and_false]]
        refine' reg_all hF ?_ mixed (by kernel_rfl) ?_
        rotate_left
        · repeat (first | exact Line.nil | ((first | refine' Line.cons rfl (.run rfl rfl ?_) ?_ | refine' Line.cons rfl (.yes rfl rfl rfl rfl ?_) ?_); (any_goals (first | exact cMove rfl rfl | exact cNilOk rfl rfl | exact cSd0 rfl rfl | exact cLdSet rfl (.l rfl hS.a0) | exact OpOk.b (c := true) (cEql rfl rfl rfl) (decide_eq_true hN) | exact cCallS2 rfl (.l rfl hS.mine) (.l rfl hv8) hMi | exact cCallS2 rfl (Has.c (.t rfl) seg_sl) (.l rfl hv7) hEi | exact cCallH1 rfl (Has.c (.t rfl) seg_sl) hTe | exact cLoadSum rfl (.l rfl hp5) Tryz.underlying28 sizeS | exact OpOk.b (c := false) (cEqlAgg rfl rfl rfl guardS (eqlS _ _)) (decide_eq_false hT) | exact cPickT rfl rfl rfl)); rotate_left))
        intro a w8 hF hb hN
        have hBs := hB.size
        replace hB := hB.trans (hb.mono hB.size)
        dsimp only [ext, Option.getD] at hF
        exact ⟨rfl, hF.keep [0, 7, 8, 69], hB⟩
    · rw [show dn = false by rw [eD, decide_eq_false hN, Bool.false_and]]
      refine' reg_all hF ?_ mixed (by kernel_rfl) ?_
      rotate_left
      · repeat (first | exact Line.nil | (refine' Line.cons rfl (.no rfl rfl rfl rfl rfl rfl) ?_; rotate_left) | ((refine' Line.cons rfl (.run rfl rfl ?_) ?_); (any_goals (first | exact cMove rfl rfl | exact OpOk.b (c := false) (cEql rfl rfl rfl) (decide_eq_false hN) | exact cPickF rfl rfl rfl)); rotate_left))
      intro a w8 hF hb hN
      have hBs := hB.size
      replace hB := hB.trans (hb.mono hB.size)
      dsimp only [ext, Option.getD] at hF
      exact ⟨rfl, hF.keep [0, 7, 8, 69], hB⟩
  clear hF
  rintro e a w8 ⟨rfl, hF, hb8⟩
  replace hB := hB.trans (hb8.mono hB.size)
  replace hS := hS.below hb8
  have hv7 := (Ty.sums 28 P).below hv7 hb8
  have hv8 := (Ty.sums 28 Q).below hv8 hb8
  clear hp4 hp5 hsl htab eD hMi lM hEi lE hTe eT
  replace hK := hK.trans (Keeps.of_below hB)
  replace hB := Below.refl w8.heap.size w8
  repeat with_reducible refine nThen ?_
  cases dn with
  | true =>
    refine cond_t hF rfl ?_
    repeat with_reducible refine wp_seq ?_
    refine' region_ty 3 mixed (by kernel_rfl) hF ?_ ?_
    rotate_left
    · simp only [List.take_succ_cons, List.take_zero]
      repeat (first | exact Line.nil | ((refine' Line.cons rfl (.run rfl rfl ?_) ?_); (any_goals exact cMove rfl rfl); rotate_left))
    intro a w9 hF hb hN
    have hBs := hB.size
    replace hB := hB.trans (hb.mono hB.size)
    simp only [List.take_succ_cons, List.take_zero, List.drop_succ_cons, List.drop_zero] at hF hN ⊢
    dsimp only [ext, Option.getD] at hF
    replace hS := hS.below hb
    have hv7 := (Ty.sums 28 P).below hv7 hb
    have hv8 := (Ty.sums 28 Q).below hv8 hb
    refine tlCall (R := fun u w' => u = .tuple #[] ∧ SideM w' g m v7 v8 (Sd.fin { s with rounds := s.rounds + 1 } P Q) ∧ Keeps [g] w9 w') (args := #[.pointer (some ⟨g, 0, none⟩), v7, v8]) rfl rfl rfl ?_ (fun args w => by kernel_rfl) ((end_acts hS P Q hv7 hv8).mono fun e w' ⟨k1, k2, k3⟩ => ⟨_, k1, rfl, k2, k3⟩) ?_
    · simp only [List.map_toArray, List.map_cons, List.map_nil, hF.getEx (s := 70) rfl, hF.getEx (s := 71) rfl, hF.getEx (s := 72) rfl]
    rintro u w10 ⟨rfl, hS10, hk10⟩
    have hF := (fr_side (hF.keep [0]) hS hk10 rfl).put (d := 73) (by decide) (Below.refl _ _) (V := Ty.ex (.tuple #[])) rfl
    replace hK := hK.trans (keeps_below hB hk10)
    replace hB := Below.refl w10.heap.size w10
    refine wpList_nil ?_
    repeat with_reducible first | refine wp_seq ?_ | refine nThen ?_
    refine' reg_all hF ?_ mixed (by kernel_rfl) ?_
    rotate_left
    · repeat (first | exact Line.nil | ((refine' Line.cons rfl (.run rfl rfl ?_) ?_); (any_goals exact cAssign rfl rfl); rotate_left))
    intro a w11 hF hb hN
    have hBs := hB.size
    replace hB := hB.trans (hb.mono hB.size)
    dsimp only [ext, Option.getD] at hF
    repeat with_reducible first | refine nThen ?_ | refine wp_ret ?_ | refine rThen ?_
    refine ret1 hF rfl rfl fun z hz => ?_
    exact ⟨by rw [show z = _ from hz]; try rfl, ⟨_, _, hS10.below hB⟩, hK.trans (Keeps.of_below hB)⟩
  | false =>
    refine cond_f hF rfl ?_
    repeat with_reducible first | refine wp_seq ?_ | refine nThen ?_ | refine wp_skip ?_
    refine' reg_all hF ?_ mixed (by kernel_rfl) ?_
    rotate_left
    · repeat (first | exact Line.nil | ((refine' Line.cons rfl (.run rfl rfl ?_) ?_); (any_goals exact cAssign rfl rfl); rotate_left))
    intro a w9 hF hb hN
    have hBs := hB.size
    replace hB := hB.trans (hb.mono hB.size)
    dsimp only [ext, Option.getD] at hF
    repeat with_reducible first | refine wp_seq ?_ | refine nThen ?_
    replace hS := hS.below hb
    by_cases hn : s.n = 1023
    · rw [if_neg (by decide), if_pos hn]
      refine' reg_all hF ?_ mixed (by kernel_rfl) ?_
      rotate_left
      · repeat (first | exact Line.nil | ((refine' Line.cons rfl (.run rfl rfl ?_) ?_); (any_goals (first | exact cMove rfl rfl | exact cNilOk rfl rfl | exact cSd1 rfl rfl | exact cAk1 rfl rfl | exact cLdInt rfl (.l rfl hS.a2) | exact OpOk.b (c := true) (cEql rfl rfl rfl) (decide_eq_true hn))); rotate_left))
      intro a w10 hF hb hN
      have hBs := hB.size
      replace hB := hB.trans (hb.mono hB.size)
      dsimp only [ext, Option.getD] at hF
      repeat with_reducible refine nThen ?_
      replace hS := hS.below hb
      refine cond_t hF rfl ?_
      refine' region_ty 4 mixed (by kernel_rfl) hF ?_ ?_
      rotate_left
      · simp only [List.take_succ_cons, List.take_zero]
        repeat (first | exact Line.nil | ((refine' Line.cons rfl (.run rfl rfl ?_) ?_); (any_goals (first | exact cMove rfl rfl | exact cNilOk rfl rfl | exact cSd1 rfl rfl | exact cBuildC rfl (fun w => buildAsk1 _ w))); rotate_left))
      intro a w11 hF hb hN
      have hBs := hB.size
      replace hB := hB.trans (hb.mono hB.size)
      simp only [List.take_succ_cons, List.take_zero, List.drop_succ_cons, List.drop_zero] at hF hN ⊢
      dsimp only [ext, Option.getD] at hF
      replace hS := hS.below hb
      refine tlStoreF (k := 1) (v := .agg #[.int .i64 3, .int .i64 0, .int .u64 0]) (Δ := []) hF rfl rfl rfl rfl (hF.getEx (s := 82) rfl) hS.blk (by simp [sdCs, Value.cells]) sizeAsk (by simp [Value.cells, Value.oneCell']) (hF.keep []) rfl ?_
      intro w12 hF hb12 hk12
      refine wpList_nil ?_
      replace hK := hK.trans (keeps_below hB hk12)
      have hS12 : SideM w12 g m t o { s with kind := 3, n := 0, seed := 0, rounds := s.rounds + 1 } := hS.put hk12 hb12 rfl hS.theirs hS.ours
      replace hB := Below.refl w12.heap.size w12
      repeat with_reducible first | refine wp_seq ?_ | refine nThen ?_
      refine' reg_all hF ?_ mixed (by kernel_rfl) ?_
      rotate_left
      · repeat (first | exact Line.nil | ((refine' Line.cons rfl (.run rfl rfl ?_) ?_); (any_goals exact cAssign rfl rfl); rotate_left))
      intro a w13 hF hb hN
      have hBs := hB.size
      replace hB := hB.trans (hb.mono hB.size)
      dsimp only [ext, Option.getD] at hF
      repeat with_reducible first | refine nThen ?_ | refine wp_ret ?_
      refine ret1 hF rfl rfl fun z hz => ?_
      exact ⟨by rw [show z = _ from hz]; try rfl, ⟨_, _, hS12.below hB⟩, hK.trans (Keeps.of_below hB)⟩
    · rw [if_neg (by decide), if_neg hn]
      refine' reg_all hF ?_ mixed (by kernel_rfl) ?_
      rotate_left
      · repeat (first | exact Line.nil | ((refine' Line.cons rfl (.run rfl rfl ?_) ?_); (any_goals (first | exact cMove rfl rfl | exact cNilOk rfl rfl | exact cSd1 rfl rfl | exact cAk1 rfl rfl | exact cLdInt rfl (.l rfl hS.a2) | exact OpOk.b (c := false) (cEql rfl rfl rfl) (decide_eq_false hn))); rotate_left))
      intro a w10 hF hb hN
      have hBs := hB.size
      replace hB := hB.trans (hb.mono hB.size)
      dsimp only [ext, Option.getD] at hF
      repeat with_reducible refine nThen ?_
      replace hS := hS.below hb
      refine cond_f hF rfl ?_
      refine' region_ty 18 mixed (by kernel_rfl) hF ?_ ?_
      rotate_left
      · simp only [List.take_succ_cons, List.take_zero]
        repeat (first | exact Line.nil | ((refine' Line.cons rfl (.run rfl rfl ?_) ?_); (any_goals (first | exact cMove rfl rfl | exact cNilOk rfl rfl | exact cSd1 rfl rfl | exact cAk1 rfl rfl | exact cAk2 rfl rfl | exact cLdInt rfl (.l rfl hS.a2) | exact cLdU64 rfl (.l rfl hS.a3) | exact cMul (r := 2 * s.n) rfl rfl rfl (by dsimp only; omega) | exact cMinT rfl rfl rfl | exact OpOk.v (cAddW rfl rfl rfl) (congrArg (Value.int .u64) (u64_succ _)) | exact cBuildN3 rfl rfl rfl rfl (fun w => buildAsk3 _ _ _ w))); rotate_left))
      intro a w11 hF hb hN
      have hBs := hB.size
      replace hB := hB.trans (hb.mono hB.size)
      simp only [List.take_succ_cons, List.take_zero, List.drop_succ_cons, List.drop_zero] at hF hN ⊢
      dsimp only [ext, Option.getD] at hF
      replace hS := hS.below hb
      refine tlStoreF (k := 1) (v := .agg #[.int .i64 2, .int .i64 (min (2 * s.n) 1023), .int .u64 (((s.seed + 1) % 18446744073709551616 : Nat) : Int)]) (Δ := []) hF rfl rfl rfl rfl (hF.getEx (s := 100) rfl) hS.blk (by simp [sdCs, Value.cells]) sizeAsk (by simp [Value.cells, Value.oneCell']) (hF.keep []) rfl ?_
      intro w12 hF hb12 hk12
      refine wpList_nil ?_
      replace hK := hK.trans (keeps_below hB hk12)
      have hS12 : SideM w12 g m t o { s with kind := 2, n := min (2 * s.n) 1023, seed := (s.seed + 1) % 18446744073709551616, rounds := s.rounds + 1 } := hS.put hk12 hb12 rfl hS.theirs hS.ours
      replace hB := Below.refl w12.heap.size w12
      repeat with_reducible first | refine wp_seq ?_ | refine nThen ?_
      refine' reg_all hF ?_ mixed (by kernel_rfl) ?_
      rotate_left
      · repeat (first | exact Line.nil | ((refine' Line.cons rfl (.run rfl rfl ?_) ?_); (any_goals exact cAssign rfl rfl); rotate_left))
      intro a w13 hF hb hN
      have hBs := hB.size
      replace hB := hB.trans (hb.mono hB.size)
      dsimp only [ext, Option.getD] at hF
      repeat with_reducible first | refine nThen ?_ | refine wp_ret ?_
      refine ret1 hF rfl rfl fun z hz => ?_
      exact ⟨by rw [show z = _ from hz]; try rfl, ⟨_, _, hS12.below hB⟩, hK.trans (Keeps.of_below hB)⟩
def Sd.lsE (s : Sd) (X : List Sm) (all : Sm) : Int := if s.kind = 3 then (if goodL X then (if tellS X = all then 0 else 11) else 1) else 5
def Sd.lsS (s : Sd) (X : List Sm) (all : Sm) : Sd := if s.kind = 3 then (if goodL X then (if tellS X = all then Sd.fin { s with rounds := s.rounds + 1 } (minusL X s.mine) (minusL s.mine X) else { s with rounds := s.rounds + 1 }) else s) else s
set_option maxRecDepth 100000 in
set_option maxHeartbeats 4000000 in
theorem list_acts (h : SideM w g m t o s) (X : List Sm) (all : Sm) {x y : Value} (hx : (Ty.sums 28 X).p w x) (hy : y = .agg (u8s all.l)) (hM : s.mine.length ≤ 100000) (hX : X.length ≤ 100000) (hr : s.rounds ≤ 1000000) : Calls Tryz.prog 13 #[.pointer (some ⟨g, 0, none⟩), x, y] w fun e w' => e = .returned (.int .i64 (s.lsE X all)) ∧ (∃ t' o', SideM w' g m t' o' (s.lsS X all)) ∧ Keeps [g] w w' := by
  subst hy
  let TU := Ty.sums 28 X
  let TX := Ty.at_ 28 all.enc
  refine enter_ty 43 [Ty.ex (.pointer (some ⟨g, 0, none⟩)), Ty.ex x, Ty.ex (.agg (u8s all.l))] Tryz.func13 rfl (by kernel_rfl) ⟨rfl, rfl, rfl, trivial⟩ fun a hF => ?_
  have hB := Below.refl w.heap.size w
  repeat with_reducible refine wp_seq ?_
  refine' reg_all hF ?_ mixed (by kernel_rfl) ?_
  rotate_left
  · repeat (first | exact Line.nil | ((refine' Line.cons rfl (.run rfl rfl ?_) ?_); (any_goals (first | exact cAssign rfl rfl | exact cBoxSum rfl rfl)); rotate_left))
  intro a w1 hF hb hN
  have hBs := hB.size
  replace hB := hB.trans (hb.mono hB.size)
  dsimp only [ext, Option.getD] at hF
  repeat with_reducible first | refine wp_seq ?_ | refine nThen ?_ | refine wp_block ?_
  obtain ⟨p5, hp5, hF⟩ := hF.open (s := 5) rfl
  have hp5 : TX.p w1 p5 := hp5
  have hx1 := TU.below hx hB
  have hS := h.below hB
  by_cases hk : s.kind = 3
  rotate_left
  · have e1 : s.lsE X all = 5 := by unfold Sd.lsE; rw [if_neg hk]
    have e2 : s.lsS X all = s := by unfold Sd.lsS; rw [if_neg hk]
    rw [e1, e2]
    refine' reg_all hF ?_ mixed (by kernel_rfl) ?_
    rotate_left
    · repeat (first | exact Line.nil | ((refine' Line.cons rfl (.run rfl rfl ?_) ?_); (any_goals (first | exact cMove rfl rfl | exact cAssign rfl rfl | exact cNilOk rfl rfl | exact cSd1 rfl rfl | exact cAk0 rfl rfl | exact cLdInt rfl (.l rfl hS.a1) | exact OpOk.b (c := true) (cNeq rfl rfl rfl) (by rw [decide_eq_false hk]; rfl))); rotate_left))
    intro a w2 hF hb hN
    have hBs := hB.size
    replace hB := hB.trans (hb.mono hB.size)
    dsimp only [ext, Option.getD] at hF
    repeat with_reducible refine nThen ?_
    refine cond_t hF rfl ?_
    repeat with_reducible refine wp_seq ?_
    refine' reg_all hF ?_ mixed (by kernel_rfl) ?_
    rotate_left
    · repeat (first | exact Line.nil | ((refine' Line.cons rfl (.run rfl rfl ?_) ?_); (any_goals exact cAssign rfl rfl); rotate_left))
    intro a w3 hF hb hN
    have hBs := hB.size
    replace hB := hB.trans (hb.mono hB.size)
    dsimp only [ext, Option.getD] at hF
    repeat with_reducible first | refine nThen ?_ | refine wp_ret ?_ | refine rThen ?_ | refine rBlk ?_
    refine ret1 hF rfl rfl fun z hz => ?_
    exact ⟨by rw [show z = _ from hz], ⟨_, _, h.below hB⟩, Keeps.of_below hB⟩
  have e1 : s.lsE X all = if goodL X then (if tellS X = all then 0 else 11) else 1 := by unfold Sd.lsE; rw [if_pos hk]
  have e2 : s.lsS X all = if goodL X then (if tellS X = all then Sd.fin { s with rounds := s.rounds + 1 } (minusL X s.mine) (minusL s.mine X) else { s with rounds := s.rounds + 1 }) else s := by unfold Sd.lsS; rw [if_pos hk]
  rw [e1, e2]
  clear e1 e2
  refine' reg_all hF ?_ mixed (by kernel_rfl) ?_
  rotate_left
  · repeat (first | exact Line.nil | ((refine' Line.cons rfl (.run rfl rfl ?_) ?_); (any_goals (first | exact cMove rfl rfl | exact cAssign rfl rfl | exact cNilOk rfl rfl | exact cSd1 rfl rfl | exact cAk0 rfl rfl | exact cLdInt rfl (.l rfl hS.a1) | exact OpOk.b (c := false) (cNeq rfl rfl rfl) (by rw [decide_eq_true hk]; rfl))); rotate_left))
  intro a w2 hF hb hN
  have hBs := hB.size
  replace hB := hB.trans (hb.mono hB.size)
  dsimp only [ext, Option.getD] at hF
  repeat with_reducible refine nThen ?_
  refine cond_f hF rfl ?_
  repeat with_reducible refine wp_seq ?_
  replace hS := hS.below hb
  replace hp5 := TX.below hp5 hb
  replace hx1 := TU.below hx1 hb
  have hG := good_ty X (by omega)
  by_cases hg : goodL X = true
  rotate_left
  · have hg : goodL X = false := by simpa using hg
    rw [hg] at hG ⊢
    refine' reg_all hF ?_ mixed (by kernel_rfl) ?_
    rotate_left
    · repeat (first | exact Line.nil | ((refine' Line.cons rfl (.run rfl rfl ?_) ?_); (any_goals (first | exact cMove rfl rfl | exact cAssign rfl rfl | exact cNot rfl rfl | exact cCallH1 rfl (.l rfl hx1) hG)); rotate_left))
    intro a w3 hF hb hN
    have hBs := hB.size
    replace hB := hB.trans (hb.mono hB.size)
    dsimp only [ext, Option.getD] at hF
    repeat with_reducible refine nThen ?_
    refine cond_t hF rfl ?_
    repeat with_reducible refine wp_seq ?_
    refine' reg_all hF ?_ mixed (by kernel_rfl) ?_
    rotate_left
    · repeat (first | exact Line.nil | ((refine' Line.cons rfl (.run rfl rfl ?_) ?_); (any_goals exact cAssign rfl rfl); rotate_left))
    intro a w4 hF hb hN
    have hBs := hB.size
    replace hB := hB.trans (hb.mono hB.size)
    dsimp only [ext, Option.getD] at hF
    repeat with_reducible first | refine nThen ?_ | refine wp_ret ?_ | refine rThen ?_ | refine rBlk ?_
    refine ret1 hF rfl rfl fun z hz => ?_
    exact ⟨by rw [show z = _ from hz]; try rfl, ⟨_, _, h.below hB⟩, Keeps.of_below hB⟩
  rw [hg] at hG
  rw [if_pos hg, if_pos hg]
  refine' reg_all hF ?_ mixed (by kernel_rfl) ?_
  rotate_left
  · repeat (first | exact Line.nil | ((refine' Line.cons rfl (.run rfl rfl ?_) ?_); (any_goals (first | exact cMove rfl rfl | exact cAssign rfl rfl | exact cNot rfl rfl | exact cCallH1 rfl (.l rfl hx1) hG)); rotate_left))
  intro a w3 hF hb hN
  have hBs := hB.size
  replace hB := hB.trans (hb.mono hB.size)
  dsimp only [ext, Option.getD] at hF
  repeat with_reducible refine nThen ?_
  refine cond_f hF rfl ?_
  repeat with_reducible first | refine wp_seq ?_ | refine nThen ?_ | refine nBlk ?_ | refine wp_skip ?_
  replace hS := hS.below hb
  replace hp5 := TX.below hp5 hb
  replace hx1 := TU.below hx1 hb
  refine' region_ty 7 mixed (by kernel_rfl) hF ?_ ?_
  rotate_left
  · simp only [List.take_succ_cons, List.take_zero]
    repeat (first | exact Line.nil | ((refine' Line.cons rfl (.run rfl rfl ?_) ?_); (any_goals (first | exact cMove rfl rfl | exact cNilOk rfl rfl | exact cSd4 rfl rfl | exact cLdInt rfl (.l rfl hS.a6) | exact cAdd (r := ((s.rounds + 1 : Nat) : Int)) rfl rfl rfl (by omega))); rotate_left))
  intro a w5 hF hb hN
  have hBs := hB.size
  replace hB := hB.trans (hb.mono hB.size)
  simp only [List.take_succ_cons, List.take_zero, List.drop_succ_cons, List.drop_zero] at hF hN ⊢
  dsimp only [ext, Option.getD] at hF
  replace hS := hS.below hb
  replace hp5 := TX.below hp5 hb
  replace hx1 := TU.below hx1 hb
  refine tlStoreF (k := 6) (v := .int .i64 ((s.rounds + 1 : Nat) : Int)) (Δ := [(0, Ty.ex (.pointer (some ⟨g, 0, none⟩))), (1, Ty.ex x), (5, Ty.ex p5)]) hF rfl rfl rfl rfl (hF.getEx (s := 22) rfl) hS.blk (by simp [sdCs, Value.cells]) sizeIntR (by simp [Value.cells, Value.oneCell']) (hF.keep [0, 1, 5]) rfl ?_
  intro w6 hF hb6 hk6
  refine wpList_nil ?_
  have hK := keeps_below hB hk6
  replace hp5 := TX.far hp5 hk6 hS.blk rfl
  replace hx1 := TU.far hx1 hk6 hS.blk rfl
  have hS6 : SideM w6 g m t o { s with rounds := s.rounds + 1 } := hS.put hk6 hb6 rfl hS.theirs hS.ours
  clear hS hb6 hk6 hB h hx
  have hS := hS6
  clear hS6
  have hB := Below.refl w6.heap.size w6
  have hTe := tell_ty X (by omega)
  have eT : shaS (byL (setL X)) = tellS X := rfl
  rw [eT] at hTe
  have hM1 := minus_ty X s.mine (by omega) (by omega)
  have hM2 := minus_ty s.mine X (by omega) (by omega)
  generalize tellS X = tl at *
  repeat with_reducible first | refine wp_seq ?_ | refine nThen ?_
  by_cases hT : tl = all
  rotate_left
  · rw [if_neg hT, if_neg hT]
    refine' reg_all hF ?_ mixed (by kernel_rfl) ?_
    rotate_left
    · repeat (first | exact Line.nil | ((refine' Line.cons rfl (.run rfl rfl ?_) ?_); (any_goals (first | exact cMove rfl rfl | exact cCallH1 rfl (.l rfl hx1) hTe | exact cLoadSum rfl (.l rfl hp5) Tryz.underlying28 sizeS | exact OpOk.b (c := true) (cNeqAgg rfl rfl rfl guardS (neqS _ _)) (by rw [decide_eq_false hT]; rfl))); rotate_left))
    intro a w7 hF hb hN
    have hBs := hB.size
    replace hB := hB.trans (hb.mono hB.size)
    dsimp only [ext, Option.getD] at hF
    repeat with_reducible refine nThen ?_
    refine cond_t hF rfl ?_
    repeat with_reducible refine wp_seq ?_
    refine' reg_all hF ?_ mixed (by kernel_rfl) ?_
    rotate_left
    · repeat (first | exact Line.nil | ((refine' Line.cons rfl (.run rfl rfl ?_) ?_); (any_goals exact cAssign rfl rfl); rotate_left))
    intro a w8 hF hb hN
    have hBs := hB.size
    replace hB := hB.trans (hb.mono hB.size)
    dsimp only [ext, Option.getD] at hF
    repeat with_reducible first | refine nThen ?_ | refine wp_ret ?_ | refine rThen ?_
    refine ret1 hF rfl rfl fun z hz => ?_
    exact ⟨by rw [show z = _ from hz], ⟨_, _, hS.below hB⟩, hK.trans (Keeps.of_below hB)⟩
  rw [if_pos hT, if_pos hT]
  refine' reg_all hF ?_ mixed (by kernel_rfl) ?_
  rotate_left
  · repeat (first | exact Line.nil | ((refine' Line.cons rfl (.run rfl rfl ?_) ?_); (any_goals (first | exact cMove rfl rfl | exact cCallH1 rfl (.l rfl hx1) hTe | exact cLoadSum rfl (.l rfl hp5) Tryz.underlying28 sizeS | exact OpOk.b (c := false) (cNeqAgg rfl rfl rfl guardS (neqS _ _)) (by rw [decide_eq_true hT]; rfl))); rotate_left))
  intro a w7 hF hb hN
  have hBs := hB.size
  replace hB := hB.trans (hb.mono hB.size)
  dsimp only [ext, Option.getD] at hF
  repeat with_reducible refine nThen ?_
  refine cond_f hF rfl ?_
  repeat with_reducible first | refine wp_seq ?_ | refine nThen ?_ | refine wp_skip ?_
  replace hS := hS.below hb
  replace hx1 := TU.below hx1 hb
  refine' region_ty 13 mixed (by kernel_rfl) hF ?_ ?_
  rotate_left
  · simp only [List.take_succ_cons, List.take_zero]
    repeat (first | exact Line.nil | ((refine' Line.cons rfl (.run rfl rfl ?_) ?_); (any_goals (first | exact cMove rfl rfl | exact cNilOk rfl rfl | exact cSd0 rfl rfl | exact cLdSet rfl (.l rfl hS.a0) | exact cCallS2 rfl (.l rfl hx1) (.l rfl hS.mine) hM1 | exact cCallS2 rfl (.l rfl hS.mine) (.l rfl hx1) hM2)); rotate_left))
  intro a w8 hF hb hN
  have hBs := hB.size
  replace hB := hB.trans (hb.mono hB.size)
  simp only [List.take_succ_cons, List.take_zero, List.drop_succ_cons, List.drop_zero] at hF hN ⊢
  dsimp only [ext, Option.getD] at hF
  replace hS := hS.below hb
  obtain ⟨v1, hv1, hF⟩ := hF.open (s := 35) rfl
  obtain ⟨v2, hv2, hF⟩ := hF.open (s := 41) rfl
  have hv1 := seg_sl _ _ hv1
  have hv2 := seg_sl _ _ hv2
  refine tlCall (R := fun u w' => u = .tuple #[] ∧ SideM w' g m v1 v2 (Sd.fin { s with rounds := s.rounds + 1 } (minusL X s.mine) (minusL s.mine X)) ∧ Keeps [g] w8 w') (args := #[.pointer (some ⟨g, 0, none⟩), v1, v2]) rfl rfl rfl ?_ (fun args w => by kernel_rfl) ((end_acts hS _ _ hv1 hv2).mono fun e w' ⟨k1, k2, k3⟩ => ⟨_, k1, rfl, k2, k3⟩) ?_
  · simp only [List.map_toArray, List.map_cons, List.map_nil, hF.getEx (s := 29) rfl, hF.getEx (s := 35) rfl, hF.getEx (s := 41) rfl]
  rintro u w10 ⟨rfl, hS10, hk10⟩
  have hF := (fr_side (hF.keep [0]) hS hk10 rfl).put (d := 42) (by decide) (Below.refl _ _) (V := Ty.ex (.tuple #[])) rfl
  replace hK := hK.trans (keeps_below hB hk10)
  replace hB := Below.refl w10.heap.size w10
  refine wpList_nil ?_
  repeat with_reducible first | refine wp_seq ?_ | refine nThen ?_
  refine' reg_all hF ?_ mixed (by kernel_rfl) ?_
  rotate_left
  · repeat (first | exact Line.nil | ((refine' Line.cons rfl (.run rfl rfl ?_) ?_); (any_goals exact cAssign rfl rfl); rotate_left))
  intro a w11 hF hb hN
  have hBs := hB.size
  replace hB := hB.trans (hb.mono hB.size)
  dsimp only [ext, Option.getD] at hF
  repeat with_reducible first | refine nThen ?_ | refine wp_ret ?_
  refine ret1 hF rfl rfl fun z hz => ?_
  exact ⟨by rw [show z = _ from hz], ⟨_, _, hS10.below hB⟩, hK.trans (Keeps.of_below hB)⟩
end
end Go.Proofs.YtmefpnklgfhggaaGreatDoor

/- Layer 15 by types: TableOrder. -/
namespace Go.Proofs.YtmefpnklgfhggaaGreatDoor
open Go.RowKit

/-- The row begun elsewhere. -/
def turned (X : List Sm) (r : Nat) : List Sm := X.drop r ++ X.take r
section
variable {P : Program} {ops : Array Oper} {Q : Exit → Act → World → Prop} {N : Nat} {Γ : Ctx} {a : Act} {w : World} {o1 o2 : Oper} {rest : List Oper}
end
end Go.Proofs.YtmefpnklgfhggaaGreatDoor

/- Layer 10 by types: the document's Of. -/
namespace Go.Proofs.YtmefpnklgfhggaaGreatDoor
open Go.RowKit

end Go.Proofs.YtmefpnklgfhggaaGreatDoor

/- Layer 15 by types: the document's Count and TableOf. -/
namespace Go.Proofs.YtmefpnklgfhggaaGreatDoor
open Go.RowKit

end Go.Proofs.YtmefpnklgfhggaaGreatDoor

/- Layer 15 by types: the document's TableOf. -/
namespace Go.Proofs.YtmefpnklgfhggaaGreatDoor
open Go.RowKit

section
variable {P : Program} {ops : Array Oper} {Q : Exit → Act → World → Prop} {N : Nat} {Γ : Ctx} {a : Act} {w : World} {o1 o2 : Oper} {rest : List Oper}
end
end Go.Proofs.YtmefpnklgfhggaaGreatDoor

/- Drawn regions walked through all their orders, by types: for small regions that store into what they make. -/
namespace Go.Proofs.YtmefpnklgfhggaaGreatDoor
open Go.RowKit

/-- Without slot p. -/
def dropS (p : Nat) : Ctx → Ctx
  | [] => []
  | e :: Γ => bif Nat.beq e.1 p then dropS p Γ else e :: dropS p Γ
theorem dropS_look {p : Nat} : ∀ {Γ : Ctx} {s : Nat} {τ : Ty}, look (dropS p Γ) s = some τ → look Γ s = some τ
  | [], _, _, h => h
  | e :: Γ, s, τ, h => by
    unfold dropS at h
    cases hb : Nat.beq e.1 p with
    | true =>
      rw [hb] at h
      simp only [cond_true] at h
      have h1 := dropS_look h
      by_cases hes : e.1 = s
      · exfalso
        have hp : e.1 = p := Nat.eq_of_beq_eq_true hb
        have hno : ∀ Γ : Ctx, look (dropS s Γ) s = none := fun Γ => by
          induction Γ with
          | nil => rfl
          | cons e Γ ih =>
            unfold dropS
            cases hb2 : Nat.beq e.1 s with
            | true => simp only [cond_true]; exact ih
            | false => simp only [cond_false]; unfold look; rw [hb2]; exact ih
        rw [← hp, hes, hno] at h
        cases h
      · obtain ⟨d, V⟩ := e
        rw [look_ne _ _ hes]
        exact h1
    | false =>
      rw [hb] at h
      simp only [cond_false] at h
      by_cases hes : e.1 = s
      · obtain ⟨d, V⟩ := e
        have hes : d = s := hes
        subst hes
        rw [look_same] at h ⊢
        exact h
      · obtain ⟨d, V⟩ := e
        rw [look_ne _ _ hes] at h ⊢
        exact dropS_look h
theorem Fr.dropS {N : Nat} {Γ : Ctx} {a : Act} {w : World} (h : Fr N Γ a w) (p : Nat) : Fr N (dropS p Γ) a w := ⟨h.size, h.defers, fun s τ hs => h.val s τ (dropS_look hs)⟩
section
variable {P : Program} {Q : Exit → Act → World → Prop} {N : Nat} {Γ : Ctx} {a : Act} {w W : World} {o : Oper} {K : Act → World → Prop} {y : Nat → Option Bool}
theorem anyOp {d : Nat} {V : Ty} (hF : Fr N Γ a w) (hB : Below W.heap.size W w) (hg : o.guard = none) (hd : o.dst = some d) (hN : decide (d < N) = true) (h : OpOk P w Γ o V) (hk : ∀ a' w', Fr N ((d, V) :: Γ) a' w' → Below W.heap.size W w' → K a' w') : if Region.wanted o y = true then Oper.wp P o a w K Q else K (a.put o.dst undef) w := by
  simp only [Region.wanted, hg, if_true]
  refine h a w K Q (Below.refl _ _) (fun s τ _ hs => hF.val s τ hs) fun v w' hv hb => ?_
  rw [hd]
  exact hk _ _ (hF.put (of_decide_eq_true hN) hb hv) (hB.trans (hb.mono hB.size))
theorem anyStore {ty t : TypeId} {p q : Nat} {z : Array Value} {v : Value} {xs : List Value} (hF : Fr N Γ a w) (hB : Below W.heap.size W w) (hg : o.guard = none) (hd : o.dst = none) (ho : o.op = .store ty (.tmp p) (.tmp q)) (hp : look Γ p = some (Ty.var W t z)) (hq : look Γ q = some (Ty.ex v)) (hcs : v.cells.size = z.size) (hi : (P.info? ty).map (·.size) = some v.cells.size) (h1 : v.cells.all (·.oneCell') = true) (hx : v.cells.toList = xs) (hfree : (dropS p Γ).free t = true)
    (hk : ∀ a' w', Fr N ((p, Ty.at_ t xs) :: dropS p Γ) a' w' → Below W.heap.size W w' → K a' w') : if Region.wanted o y = true then Oper.wp P o a w K Q else K (a.put o.dst undef) w := by
  simp only [Region.wanted, hg, if_true]
  obtain ⟨u, ⟨g, rfl, hgW, hb⟩, hF'⟩ := hF.open hp
  unfold Oper.wp execOp
  simp only [ho, hF'.getEx (look_same _ _ _), hF.getEx hq, Instr.storeAt, Instr.sureAddr, Sem.run_bind, Sem.run_pure, Result.andThen_ok, storeVar_cells ty _ v, run_storeVar_mid w g 0 ty v.cells (hb.there (by omega)) hi h1]
  have h2 := hb.setCells v.cells.toList 0
  rw [splice_all _ _ (by simpa using hcs)] at h2
  have h3 : Keeps [g] w (w.setCells g 0 v.cells.toList) := Keeps.setCells (.inl (by simp)) _ _ (Keeps.refl _ _)
  have h2 : Blk (w.setCells g 0 v.cells.toList) g t v.cells := by simpa using h2
  have hB' := below_own hB h3 (by intro y hy; simp only [List.mem_singleton] at hy; omega)
  have hFd : Fr N (dropS p Γ) a (w.setCells g 0 v.cells.toList) := (hF.dropS p).free h3 (fun b hbm _ => by
    simp only [List.mem_singleton] at hbm
    subst hbm
    exact ⟨z, (0, 0), hb⟩) hfree
  have hKa : K a (w.setCells g 0 v.cells.toList) := by
    refine hk _ _ ⟨hFd.size, hFd.defers, fun s τ hs => ?_⟩ hB'
    by_cases hps : p = s
    · subst hps
      rw [look_same] at hs
      injection hs with hs
      subst hs
      obtain ⟨v', hv1, hv2⟩ := hF'.val p _ (look_same _ _ _)
      refine ⟨v', hv1, ⟨g, 0, v.cells, (0, 0), hv2, h2, fun j u hu => ?_⟩⟩
      rw [← hx] at hu
      simpa using hu
    · rw [look_ne _ _ hps] at hs
      exact hFd.val s τ hs
  unfold Oper.upon
  simp only [hd]
  exact hKa
end
end Go.Proofs.YtmefpnklgfhggaaGreatDoor

/- Recon by types: Answer; what the laws do with it. -/
namespace Go.Proofs.YtmefpnklgfhggaaGreatDoor
open Go.RowKit

theorem retCCTT {P : Program} {Γ : Ctx} {N : Nat} {a : Act} {w : World} {fn : Func} {R : Ending → World → Prop} {s s1 s2 s3 : Nat} {ty t ty1 t1 : TypeId} {cs cs1 : Array Value} {g g1 : Nat} {d d1 : TypeDesc} {τ2 τ3 : Ty} (hF : Fr N Γ a w) (hr : fn.results = #[.cell s ty, .cell s1 ty1, .tmp s2, .tmp s3]) (hs : look Γ s = some (Ty.ex (.pointer (some ⟨g, 0, none⟩)))) (hs1 : look Γ s1 = some (Ty.ex (.pointer (some ⟨g1, 0, none⟩)))) (hs2 : look Γ s2 = some τ2) (hs3 : look Γ s3 = some τ3) (hB : Blk w g t cs) (hB1 : Blk w g1 t1 cs1)
    (hu : P.underlying ty = some d) (hd : (match d with | .struct _ | .array _ _ => true | _ => false) = true) (hi : (P.info? ty).map (·.size) = some cs.size) (hu1 : P.underlying ty1 = some d1) (hd1 : (match d1 with | .struct _ | .array _ _ => true | _ => false) = true) (hi1 : (P.info? ty1).map (·.size) = some cs1.size) (h : ∀ v2 v3, τ2.p w v2 → τ3.p w v3 → R (.returned (.tuple #[.agg cs, .agg cs1, v2, v3])) w) : bodyPost P fn R .ret a w := by
  have h1 : a.tmps[s]?.getD undef = .pointer (some ⟨g, 0, none⟩) := by have := hF.getEx hs; simpa [Act.eval, Array.getD_eq_getD_getElem?] using this
  have h11 : a.tmps[s1]?.getD undef = .pointer (some ⟨g1, 0, none⟩) := by have := hF.getEx hs1; simpa [Act.eval, Array.getD_eq_getD_getElem?] using this
  obtain ⟨v2, h2, k2⟩ := hF.val s2 τ2 hs2
  obtain ⟨v3, h3, k3⟩ := hF.val s3 τ3 hs3
  refine bodyPost_ret (v := .tuple #[.agg cs, .agg cs1, v2, v3]) ?_ hF.defers (h v2 v3 k2 k3)
  simp [results, hr, h1, h11, h2, h3, asAddr, run_loadVar_row w g t ty cs (0, 0) d hB hu hd hi, run_loadVar_row w g1 t1 ty1 cs1 (0, 0) d1 hB1 hu1 hd1 hi1]
theorem retAATT {P : Program} {Γ : Ctx} {N : Nat} {a : Act} {w : World} {fn : Func} {R : Ending → World → Prop} {s s1 s2 s3 : Nat} {ty t ty1 t1 : TypeId} {u v u1 v1 : Value} {d d1 : TypeDesc} {τ2 τ3 : Ty} (hF : Fr N Γ a w) (hr : fn.results = #[.cell s ty, .cell s1 ty1, .tmp s2, .tmp s3]) (hs : look Γ s = some (Ty.at_ t [u, v])) (hs1 : look Γ s1 = some (Ty.at_ t1 [u1, v1])) (hs2 : look Γ s2 = some τ2) (hs3 : look Γ s3 = some τ3)
    (hu : P.underlying ty = some d) (hd : (match d with | .struct _ | .array _ _ => true | _ => false) = true) (hi : (P.info? ty).map (·.size) = some 2) (hu1 : P.underlying ty1 = some d1) (hd1 : (match d1 with | .struct _ | .array _ _ => true | _ => false) = true) (hi1 : (P.info? ty1).map (·.size) = some 2) (h : ∀ v2 v3, τ2.p w v2 → τ3.p w v3 → R (.returned (.tuple #[.agg #[u, v], .agg #[u1, v1], v2, v3])) w) : bodyPost P fn R .ret a w := by
  obtain ⟨p, h1, k1⟩ := hF.val s _ hs
  obtain ⟨q, h11, k11⟩ := hF.val s1 _ hs1
  obtain ⟨v2, h2, k2⟩ := hF.val s2 τ2 hs2
  obtain ⟨v3, h3, k3⟩ := hF.val s3 τ3 hs3
  obtain ⟨ad, rfl, r1⟩ := pts_at _ _ w p k1
  obtain ⟨ad1, rfl, r11⟩ := pts_at _ _ w q k11
  have e1 := run_loadVar_rd (P := P) r1 hu hd hi
  have e11 := run_loadVar_rd (P := P) r11 hu1 hd1 hi1
  refine bodyPost_ret (v := .tuple #[.agg #[u, v], .agg #[u1, v1], v2, v3]) ?_ hF.defers (h v2 v3 k2 k3)
  simp [results, hr, h1, h11, h2, h3, asAddr, e1, e11]
/-- Cells that are read, whatever the slot holds. -/
def Ty.clsG (e : TypeId) (L : List Cl) (s : Value) : Ty := ⟨fun w _ => (Ty.cls e L).p w s, fun t => t == e, fun h k hA => (Ty.cls e L).st h k hA⟩
section
variable {w0 : World} {Γ : Ctx} {o : Oper} {x : Operand} {e : TypeId} {a b c : Value}
theorem cBoxAsk (ho : o.op = .box AskT x) (hx : OpT Γ x (Ty.ex (.agg #[a, b, c]))) : OpOk Tryz.prog w0 Γ o (Ty.at_ AskT [a, b, c]) := cBox ho hx
theorem cAkA0 (ho : o.op = .fieldAddr AskT x 0) (hx : Has w0 Γ x (Ty.at_ e [a, b, c])) : OpOk Tryz.prog w0 Γ o (Ty.at_ e [a, b, c]) := (cFieldE (P := Tryz.prog) ho hx Tryz.underlying35 rfl sizeIntR).conv fun _ _ h => h
theorem cAkA1 (ho : o.op = .fieldAddr AskT x 1) (hx : Has w0 Γ x (Ty.at_ e [a, b, c])) : OpOk Tryz.prog w0 Γ o (Ty.at_ e [b, c]) := (cFieldE (P := Tryz.prog) ho hx Tryz.underlying35 rfl sizeIntR).conv fun _ _ h => h
theorem cAkA2 (ho : o.op = .fieldAddr AskT x 2) (hx : Has w0 Γ x (Ty.at_ e [a, b, c])) : OpOk Tryz.prog w0 Γ o (Ty.at_ e [c]) := (cFieldE (P := Tryz.prog) ho hx Tryz.underlying35 rfl sizeU64R).conv fun _ _ h => h
end
theorem buildSt0R (w : World) : (Instr.build StT #[]).run Tryz.prog w = .ok (.agg #[.int .u64 0, nilS]) w := by kernel_rfl
theorem st0_nil (w : World) : (Ty.stra 40 69 0 []).p w (.agg #[.int .u64 0, nilS]) := ⟨nilS, rfl, [], Slc.nil w _, (Seg.nil w 40 2).sl⟩
theorem tab0_nil (w : World) : (Ty.tab 69 0 []).p w (.agg #[.int .u64 0, nilS]) := ⟨nilS, rfl, sl_nil _ _⟩
theorem sums_nilS {w : World} {v : Value} (h : v = nilS) : (Ty.sums 28 []).p w v := by
  rw [h]
  exact sums_nil w
/-- What is answered. -/
def Ty.ans (sd1 : Nat) (A : List (List Cl)) (sd2 : Nat) (L : List Cl) (X : List Sm) (err : Int) : Ty := Ty.tup [Ty.stra 40 69 sd1 A, Ty.tab 69 sd2 L, Ty.sums 28 X, Ty.ex (.int .i64 err)]
def ansC (Y : List Sm) (k n : Int) : Nat := if goodL Y then (if k = 1 then 1 else if k = 2 then (if goodN n then 2 else 0) else if k = 3 then 3 else 0) else 0
def Ty.ansK (Y : List Sm) (n : Int) (sd : Nat) : Nat → Ty
  | 1 => Ty.ans sd (stL sd Y) 0 [] [] 0
  | 2 => Ty.ans 0 [] sd (ofL sd n Y) [] 0
  | 3 => Ty.ans 0 [] 0 [] Y 0
  | _ => Ty.ans 0 [] 0 [] [] 1
set_option maxRecDepth 100000 in
set_option maxHeartbeats 4000000 in
theorem answer_any (Y : List Sm) (k n : Int) (sd : Nat) (hY : Y.length ≤ 1000000) (hsd : sd < 18446744073709551616) (w : World) (v u : Value) (hv : (Ty.sums 28 Y).p w v) (hu : u = .agg #[.int .i64 k, .int .i64 n, .int .u64 (sd : Int)]) (hT : TabOk w) : Ret Tryz.prog 19 #[v, u] w (Ty.ansK Y n sd (ansC Y k n)) := by
  subst hu
  have hG := good_ty Y hY
  let TY := Ty.sums 28 Y
  let TA := Ty.at_ AskT [.int .i64 k, .int .i64 n, .int .u64 (sd : Int)]
  refine enter_ty 52 [Ty.ex v, Ty.ex (.agg #[.int .i64 k, .int .i64 n, .int .u64 (sd : Int)])] Tryz.func19 rfl (by kernel_rfl) ⟨rfl, rfl, trivial⟩ fun a hF => ?_
  have hB := Below.refl w.heap.size w
  have hv : TY.p w v := hv
  repeat with_reducible refine wp_seq ?_
  refine wp_region_lit ?_
  refine' tlOp hF rfl rfl rfl ?_ ?_
  rotate_left
  · exact cBoxAsk rfl rfl
  intro a w1 hF hb
  have hBs := hB.size
  replace hB := hB.trans (hb.mono hB.size)
  try (refine wpList_nil ?_)
  replace hv := TY.below hv hb
  obtain ⟨p3, hp3, hF⟩ := hF.open (s := 3) rfl
  have hp3 : TA.p w1 p3 := hp3
  have hz1 := hB.size
  refine' tlOp hF rfl rfl rfl ?_ ?_
  rotate_left
  · exact cAllocN rfl (run_alloc_i infoStA)
  intro a w2 hF hb
  have hBs := hB.size
  replace hB := hB.trans (hb.mono hB.size)
  try (refine wpList_nil ?_)
  replace hp3 := TA.below hp3 hb
  replace hv := TY.below hv hb
  obtain ⟨z, ⟨g4, rfl, hg4, hb4⟩, hF⟩ := hF.open (s := 4) rfl
  have hg4 : w1.heap.size ≤ g4 := hg4
  have hl4 := hb4.lt
  have hz2 := hB.size
  refine' tlOp hF rfl rfl rfl ?_ ?_
  rotate_left
  · exact cAllocN rfl (run_alloc_i infoT46)
  intro a w3 hF hb
  have hBs := hB.size
  replace hB := hB.trans (hb.mono hB.size)
  try (refine wpList_nil ?_)
  replace hp3 := TA.below hp3 hb
  replace hv := TY.below hv hb
  replace hb4 := hb4.below hb
  obtain ⟨z, ⟨g5, rfl, hg5, hb5⟩, hF⟩ := hF.open (s := 5) rfl
  have hg5 : w2.heap.size ≤ g5 := hg5
  have hne : g4 ≠ g5 := by omega
  refine' tlOp hF rfl rfl rfl ?_ ?_
  rotate_left
  · exact cAssign rfl rfl
  intro a w4 hF hb
  have hBs := hB.size
  replace hB := hB.trans (hb.mono hB.size)
  try (refine wpList_nil ?_)
  replace hp3 := TA.below hp3 hb
  replace hv := TY.below hv hb
  replace hb4 := hb4.below hb
  replace hb5 := hb5.below hb
  refine' tlOp hF rfl rfl rfl ?_ ?_
  rotate_left
  · exact cAssign rfl rfl
  intro a w5 hF hb
  have hBs := hB.size
  replace hB := hB.trans (hb.mono hB.size)
  try (refine wpList_nil ?_)
  repeat with_reducible first | refine wp_seq ?_ | refine nThen ?_
  replace hp3 := TA.below hp3 hb
  replace hv := TY.below hv hb
  replace hb4 := hb4.below hb
  replace hb5 := hb5.below hb
  by_cases hg : goodL Y = true
  rotate_left
  · have hg : goodL Y = false := by simpa using hg
    have e1 : ansC Y k n = 0 := by unfold ansC; rw [hg]; rfl
    rw [e1]
    rw [hg] at hG
    refine' reg_all hF ?_ mixed (by kernel_rfl) ?_
    rotate_left
    · repeat (first | exact Line.nil | ((refine' Line.cons rfl (.run rfl rfl ?_) ?_); (any_goals (first | exact cMove rfl rfl | exact cCallH1 rfl (.l rfl hv) hG)); rotate_left))
    intro a w6 hF hb hN
    have hBs := hB.size
    replace hB := hB.trans (hb.mono hB.size)
    dsimp only [ext, Option.getD] at hF
    repeat with_reducible refine nThen ?_
    replace hb4 := hb4.below hb
    replace hb5 := hb5.below hb
    refine cond_f hF rfl ?_
    repeat with_reducible first | refine wp_seq ?_ | refine nThen ?_ | refine wp_skip ?_
    refine wp_region_lit ?_
    refine' tlOp hF rfl rfl rfl ?_ ?_
    rotate_left
    · exact cBuildE rfl (fun w => buildSt0R w)
    intro a x0 hF hb
    have hBs := hB.size
    replace hB := hB.trans (hb.mono hB.size)
    try (refine wpList_nil ?_)
    replace hb4 := hb4.below hb
    replace hb5 := hb5.below hb
    refine' tlOp hF rfl rfl rfl ?_ ?_
    rotate_left
    · exact cBuildE rfl (fun w => buildT046 w)
    intro a x1 hF hb
    have hBs := hB.size
    replace hB := hB.trans (hb.mono hB.size)
    try (refine wpList_nil ?_)
    replace hb4 := hb4.below hb
    replace hb5 := hb5.below hb
    refine tlStoreV (v := .agg #[.int .u64 0, nilS]) (Δ := [(4, Ty.ex (.pointer (some ⟨g4, 0, none⟩))), (5, Ty.ex (.pointer (some ⟨g5, 0, none⟩))), (51, Ty.ex (.agg #[.int .u64 0, nilS]))]) hF rfl rfl rfl rfl (hF.getEx (s := 50) rfl) hb4 rfl sizeStA (by simp [Value.cells, Value.oneCell']) (hF.keep [4, 5, 51]) rfl ?_
    intro x2_a hF hb4n hkx
    replace hb5 := hb5.keeps hkx (by simpa using hne.symm)
    replace hB := below_own hB hkx (by intro y hy; simp only [List.mem_singleton] at hy; omega)
    replace hb4 := hb4n
    clear hb4n hkx
    refine tlStoreV (v := .agg #[.int .u64 0, nilS]) (Δ := [(4, Ty.ex (.pointer (some ⟨g4, 0, none⟩))), (5, Ty.ex (.pointer (some ⟨g5, 0, none⟩)))]) hF rfl rfl rfl rfl (hF.getEx (s := 51) rfl) hb5 rfl sizeT46 (by simp [Value.cells, Value.oneCell']) (hF.keep [4, 5]) rfl ?_
    intro x2_b hF hb5n hkx
    replace hb4 := hb4.keeps hkx (by simpa using hne)
    replace hB := below_own hB hkx (by intro y hy; simp only [List.mem_singleton] at hy; omega)
    replace hb5 := hb5n
    clear hb5n hkx
    refine' tlOp hF rfl rfl rfl ?_ ?_
    rotate_left
    · exact cAssign rfl rfl
    intro a x3 hF hb
    have hBs := hB.size
    replace hB := hB.trans (hb.mono hB.size)
    try (refine wpList_nil ?_)
    replace hb4 := hb4.below hb
    replace hb5 := hb5.below hb
    refine' tlOp hF rfl rfl rfl ?_ ?_
    rotate_left
    · exact cAssign rfl rfl
    intro a x4 hF hb
    have hBs := hB.size
    replace hB := hB.trans (hb.mono hB.size)
    try (refine wpList_nil ?_)
    repeat with_reducible first | refine nThen ?_ | refine wp_ret ?_
    replace hb4 := hb4.below hb
    replace hb5 := hb5.below hb
    refine retCCTT hF rfl rfl rfl rfl rfl hb4 hb5 Tryz.underlying45 rfl sizeStA Tryz.underlying40 rfl sizeT46 fun v2 v3 k2 k3 => ?_
    exact ⟨_, rfl, ⟨[_, _, v2, v3], rfl, st0_nil _, tab0_nil _, sums_nilS k2, k3, trivial⟩, hB⟩
  rw [hg] at hG
  refine' reg_all hF ?_ mixed (by kernel_rfl) ?_
  rotate_left
  · repeat (first | exact Line.nil | ((refine' Line.cons rfl (.run rfl rfl ?_) ?_); (any_goals (first | exact cMove rfl rfl | exact cCallH1 rfl (.l rfl hv) hG)); rotate_left))
  intro a w6 hF hb hN
  have hBs := hB.size
  replace hB := hB.trans (hb.mono hB.size)
  dsimp only [ext, Option.getD] at hF
  repeat with_reducible refine nThen ?_
  replace hp3 := TA.below hp3 hb
  replace hv := TY.below hv hb
  replace hb4 := hb4.below hb
  replace hb5 := hb5.below hb
  refine cond_t hF rfl ?_
  repeat with_reducible first | refine wp_seq ?_ | refine wp_block ?_
  by_cases hk1 : k = 1
  · have e1 : ansC Y k n = 1 := by unfold ansC; rw [if_pos hg, if_pos hk1]
    rw [e1]
    have o1 : ∀ lo w v u, lo ≤ w.heap.size → (Ty.ex (.int .u64 (sd : Int))).p w v → (Ty.sums 28 Y).p w u → TabOk w → Ret Tryz.prog 15 #[v, u] w (Ty.straO lo 40 69 sd (stL sd Y)) := fun lo w v u h hv hu hT => stofO_any _ sd Y hY hsd w h v u hv hu hT
    refine' reg_all hF ?_ mixed (by kernel_rfl) ?_
    rotate_left
    · repeat (first | exact Line.nil | ((refine' Line.cons rfl (.run rfl rfl ?_) ?_); (any_goals (first | exact cAssign rfl rfl | exact cAkA0 rfl (.l rfl hp3) | exact cLdInt rfl (.t rfl) | exact OpOk.b (c := true) (cEql rfl rfl rfl) (decide_eq_true hk1))); rotate_left))
    intro a w7 hF hb hN
    have hBs := hB.size
    replace hB := hB.trans (hb.mono hB.size)
    dsimp only [ext, Option.getD] at hF
    repeat with_reducible refine nThen ?_
    replace hp3 := TA.below hp3 hb
    replace hv := TY.below hv hb
    replace hb4 := hb4.below hb
    replace hb5 := hb5.below hb
    refine cond_t hF rfl ?_
    repeat with_reducible refine wp_seq ?_
    refine wp_region_lit ?_
    refine' tlOp hF rfl rfl rfl ?_ ?_
    rotate_left
    · exact cAkA2 rfl (.l rfl hp3)
    intro a w8a hF hb
    have hBs := hB.size
    replace hB := hB.trans (hb.mono hB.size)
    try (refine wpList_nil ?_)
    replace hp3 := TA.below hp3 hb
    replace hv := TY.below hv hb
    replace hb4 := hb4.below hb
    replace hb5 := hb5.below hb
    refine' tlOp hF rfl rfl rfl ?_ ?_
    rotate_left
    · exact cLdU64 rfl (.t rfl)
    intro a w8b hF hb
    have hBs := hB.size
    replace hB := hB.trans (hb.mono hB.size)
    try (refine wpList_nil ?_)
    replace hp3 := TA.below hp3 hb
    replace hv := TY.below hv hb
    replace hb4 := hb4.below hb
    replace hb5 := hb5.below hb
    refine' tlOp hF rfl rfl rfl ?_ ?_
    rotate_left
    · exact cMove rfl rfl
    intro a w8c hF hb
    have hBs := hB.size
    replace hB := hB.trans (hb.mono hB.size)
    try (refine wpList_nil ?_)
    replace hp3 := TA.below hp3 hb
    replace hv := TY.below hv hb
    replace hb4 := hb4.below hb
    replace hb5 := hb5.below hb
    have hl5 := hb5.lt
    refine' tlOp hF rfl rfl rfl ?_ ?_
    rotate_left
    · exact cCallT2b rfl (.t rfl) (.l rfl hv) (hT.below hB) enOf (o1 _)
    intro a w8d hF hb
    have hBs := hB.size
    replace hB := hB.trans (hb.mono hB.size)
    try (refine wpList_nil ?_)
    replace hb4 := hb4.below hb
    replace hb5 := hb5.below hb
    obtain ⟨z, ⟨s1, ss, S, So, rfl, hsw, hso, hSo⟩, hF⟩ := hF.open (s := 19) rfl
    refine' tlOp hF rfl rfl rfl ?_ ?_
    rotate_left
    · exact cBuildE rfl (fun w => buildT046 w)
    intro a w8 hF hb
    have hBs := hB.size
    replace hB := hB.trans (hb.mono hB.size)
    try (refine wpList_nil ?_)
    replace hb4 := hb4.below hb
    replace hb5 := hb5.below hb
    replace hsw := hsw.below hb
    replace hso := hso.below hb
    refine tlStoreV (v := .agg #[.int .u64 (sd : Int), s1]) (Δ := [(4, Ty.ex (.pointer (some ⟨g4, 0, none⟩))), (5, Ty.ex (.pointer (some ⟨g5, 0, none⟩))), (20, Ty.ex (.agg #[.int .u64 0, nilS]))]) hF rfl rfl rfl rfl (hF.getEx (s := 19) rfl) hb4 rfl sizeStA (sl_one hso.sl sd) (hF.keep [4, 5, 20]) rfl ?_
    intro w9_a hF hb4n hkx
    replace hsw := hsw.far hkx hb4 (by decide)
    replace hso := hso.keeps hkx (seg_far hso hb4 (by decide))
    replace hb5 := hb5.keeps hkx (by simpa using hne.symm)
    replace hB := below_own hB hkx (by intro y hy; simp only [List.mem_singleton] at hy; omega)
    replace hb4 := hb4n
    clear hb4n hkx
    refine tlStoreV (v := .agg #[.int .u64 0, nilS]) (Δ := [(4, Ty.ex (.pointer (some ⟨g4, 0, none⟩))), (5, Ty.ex (.pointer (some ⟨g5, 0, none⟩)))]) hF rfl rfl rfl rfl (hF.getEx (s := 20) rfl) hb5 rfl sizeT46 (by simp [Value.cells, Value.oneCell']) (hF.keep [4, 5]) rfl ?_
    intro w9_b hF hb5n hkx
    replace hsw := hsw.far hkx hb5 (by decide)
    replace hso := hso.keeps hkx (fun y hy hm => by simp only [List.mem_singleton] at hm; have := hSo y hy; omega)
    replace hb4 := hb4.keeps hkx (by simpa using hne)
    replace hB := below_own hB hkx (by intro y hy; simp only [List.mem_singleton] at hy; omega)
    replace hb5 := hb5n
    clear hb5n hkx
    refine' tlOp hF rfl rfl rfl ?_ ?_
    rotate_left
    · exact cAssign rfl rfl
    intro a w10 hF hb
    have hBs := hB.size
    replace hB := hB.trans (hb.mono hB.size)
    try (refine wpList_nil ?_)
    replace hb4 := hb4.below hb
    replace hb5 := hb5.below hb
    replace hsw := hsw.below hb
    replace hso := hso.below hb
    refine' tlOp hF rfl rfl rfl ?_ ?_
    rotate_left
    · exact cAssign rfl rfl
    intro a w11 hF hb
    have hBs := hB.size
    replace hB := hB.trans (hb.mono hB.size)
    try (refine wpList_nil ?_)
    repeat with_reducible first | refine nThen ?_ | refine wp_ret ?_ | refine rThen ?_ | refine rBlk ?_
    replace hb4 := hb4.below hb
    replace hb5 := hb5.below hb
    replace hsw := hsw.below hb
    replace hso := hso.below hb
    refine retCCTT hF rfl rfl rfl rfl rfl hb4 hb5 Tryz.underlying45 rfl sizeStA Tryz.underlying40 rfl sizeT46 fun v2 v3 k2 k3 => ?_
    exact ⟨_, rfl, ⟨[_, _, v2, v3], rfl, ⟨s1, rfl, ss, hsw.slc, hso.sl⟩, tab0_nil _, sums_nilS k2, k3, trivial⟩, hB⟩
  refine' reg_all hF ?_ mixed (by kernel_rfl) ?_
  rotate_left
  · repeat (first | exact Line.nil | ((refine' Line.cons rfl (.run rfl rfl ?_) ?_); (any_goals (first | exact cAssign rfl rfl | exact cAkA0 rfl (.l rfl hp3) | exact cLdInt rfl (.t rfl) | exact OpOk.b (c := false) (cEql rfl rfl rfl) (decide_eq_false hk1))); rotate_left))
  intro a w7 hF hb hN
  have hBs := hB.size
  replace hB := hB.trans (hb.mono hB.size)
  dsimp only [ext, Option.getD] at hF
  repeat with_reducible refine nThen ?_
  replace hp3 := TA.below hp3 hb
  replace hv := TY.below hv hb
  replace hb4 := hb4.below hb
  replace hb5 := hb5.below hb
  refine cond_f hF rfl ?_
  repeat with_reducible refine wp_seq ?_
  by_cases hk2 : k = 2
  · have hGN := good14_ty n
    by_cases hgn : goodN n = true
    rotate_left
    · have hgn : goodN n = false := by simpa using hgn
      have e1 : ansC Y k n = 0 := by unfold ansC; rw [if_pos hg, if_neg hk1, if_pos hk2, hgn]; rfl
      rw [e1]
      rw [hgn] at hGN
      refine' reg_all hF ?_ mixed (by kernel_rfl) ?_
      rotate_left
      · repeat (first | exact Line.nil | ((first | refine' Line.cons rfl (.run rfl rfl ?_) ?_ | refine' Line.cons rfl (.yes rfl rfl rfl rfl ?_) ?_); (any_goals (first | exact cMove rfl rfl | exact cAssign rfl rfl | exact cAkA0 rfl (.l rfl hp3) | exact cAkA1 rfl (.l rfl hp3) | exact cLdInt rfl (.t rfl) | exact OpOk.b (c := true) (cEql rfl rfl rfl) (decide_eq_true hk2) | exact cCall1 rfl rfl hGN | exact cPickT rfl rfl rfl)); rotate_left))
      intro a w8 hF hb hN
      have hBs := hB.size
      replace hB := hB.trans (hb.mono hB.size)
      dsimp only [ext, Option.getD] at hF
      repeat with_reducible refine nThen ?_
      replace hp3 := TA.below hp3 hb
      replace hv := TY.below hv hb
      replace hb4 := hb4.below hb
      replace hb5 := hb5.below hb
      refine cond_f hF rfl ?_
      repeat with_reducible refine wp_seq ?_
      refine' reg_all hF ?_ mixed (by kernel_rfl) ?_
      rotate_left
      · repeat (first | exact Line.nil | ((refine' Line.cons rfl (.run rfl rfl ?_) ?_); (any_goals (first | exact cAssign rfl rfl | exact cAkA0 rfl (.l rfl hp3) | exact cLdInt rfl (.t rfl) | exact OpOk.b (c := false) (cEql rfl rfl rfl) (decide_eq_false (by omega)))); rotate_left))
      intro a w9 hF hb hN
      have hBs := hB.size
      replace hB := hB.trans (hb.mono hB.size)
      dsimp only [ext, Option.getD] at hF
      repeat with_reducible refine nThen ?_
      replace hp3 := TA.below hp3 hb
      replace hv := TY.below hv hb
      replace hb4 := hb4.below hb
      replace hb5 := hb5.below hb
      refine cond_f hF rfl ?_
      repeat with_reducible first | refine wp_seq ?_ | refine nThen ?_ | refine nBlk ?_ | refine wp_skip ?_
      refine wp_region_lit ?_
      refine' tlOp hF rfl rfl rfl ?_ ?_
      rotate_left
      · exact cBuildE rfl (fun w => buildSt0R w)
      intro a x0 hF hb
      have hBs := hB.size
      replace hB := hB.trans (hb.mono hB.size)
      try (refine wpList_nil ?_)
      replace hb4 := hb4.below hb
      replace hb5 := hb5.below hb
      refine' tlOp hF rfl rfl rfl ?_ ?_
      rotate_left
      · exact cBuildE rfl (fun w => buildT046 w)
      intro a x1 hF hb
      have hBs := hB.size
      replace hB := hB.trans (hb.mono hB.size)
      try (refine wpList_nil ?_)
      replace hb4 := hb4.below hb
      replace hb5 := hb5.below hb
      refine tlStoreV (v := .agg #[.int .u64 0, nilS]) (Δ := [(4, Ty.ex (.pointer (some ⟨g4, 0, none⟩))), (5, Ty.ex (.pointer (some ⟨g5, 0, none⟩))), (51, Ty.ex (.agg #[.int .u64 0, nilS]))]) hF rfl rfl rfl rfl (hF.getEx (s := 50) rfl) hb4 rfl sizeStA (by simp [Value.cells, Value.oneCell']) (hF.keep [4, 5, 51]) rfl ?_
      intro x2_a hF hb4n hkx
      replace hb5 := hb5.keeps hkx (by simpa using hne.symm)
      replace hB := below_own hB hkx (by intro y hy; simp only [List.mem_singleton] at hy; omega)
      replace hb4 := hb4n
      clear hb4n hkx
      refine tlStoreV (v := .agg #[.int .u64 0, nilS]) (Δ := [(4, Ty.ex (.pointer (some ⟨g4, 0, none⟩))), (5, Ty.ex (.pointer (some ⟨g5, 0, none⟩)))]) hF rfl rfl rfl rfl (hF.getEx (s := 51) rfl) hb5 rfl sizeT46 (by simp [Value.cells, Value.oneCell']) (hF.keep [4, 5]) rfl ?_
      intro x2_b hF hb5n hkx
      replace hb4 := hb4.keeps hkx (by simpa using hne)
      replace hB := below_own hB hkx (by intro y hy; simp only [List.mem_singleton] at hy; omega)
      replace hb5 := hb5n
      clear hb5n hkx
      refine' tlOp hF rfl rfl rfl ?_ ?_
      rotate_left
      · exact cAssign rfl rfl
      intro a x3 hF hb
      have hBs := hB.size
      replace hB := hB.trans (hb.mono hB.size)
      try (refine wpList_nil ?_)
      replace hb4 := hb4.below hb
      replace hb5 := hb5.below hb
      refine' tlOp hF rfl rfl rfl ?_ ?_
      rotate_left
      · exact cAssign rfl rfl
      intro a x4 hF hb
      have hBs := hB.size
      replace hB := hB.trans (hb.mono hB.size)
      try (refine wpList_nil ?_)
      repeat with_reducible first | refine nThen ?_ | refine wp_ret ?_
      replace hb4 := hb4.below hb
      replace hb5 := hb5.below hb
      refine retCCTT hF rfl rfl rfl rfl rfl hb4 hb5 Tryz.underlying45 rfl sizeStA Tryz.underlying40 rfl sizeT46 fun v2 v3 k2 k3 => ?_
      exact ⟨_, rfl, ⟨[_, _, v2, v3], rfl, st0_nil _, tab0_nil _, sums_nilS k2, k3, trivial⟩, hB⟩
    have e1 : ansC Y k n = 2 := by unfold ansC; rw [if_pos hg, if_neg hk1, if_pos hk2, if_pos hgn]
    rw [e1]
    rw [hgn] at hGN
    refine' reg_all hF ?_ mixed (by kernel_rfl) ?_
    rotate_left
    · repeat (first | exact Line.nil | ((first | refine' Line.cons rfl (.run rfl rfl ?_) ?_ | refine' Line.cons rfl (.yes rfl rfl rfl rfl ?_) ?_); (any_goals (first | exact cMove rfl rfl | exact cAssign rfl rfl | exact cAkA0 rfl (.l rfl hp3) | exact cAkA1 rfl (.l rfl hp3) | exact cLdInt rfl (.t rfl) | exact OpOk.b (c := true) (cEql rfl rfl rfl) (decide_eq_true hk2) | exact cCall1 rfl rfl hGN | exact cPickT rfl rfl rfl)); rotate_left))
    intro a w8 hF hb hN
    have hBs := hB.size
    replace hB := hB.trans (hb.mono hB.size)
    dsimp only [ext, Option.getD] at hF
    repeat with_reducible refine nThen ?_
    replace hp3 := TA.below hp3 hb
    replace hv := TY.below hv hb
    replace hb4 := hb4.below hb
    replace hb5 := hb5.below hb
    refine cond_t hF rfl ?_
    repeat with_reducible refine wp_seq ?_
    have o1 := tof_ty sd n Y hY hsd
    rw [newE_good hgn, newS_good hgn] at o1
    have hw80 := hB.size
    have hB0 := hB
    have hp3 : True ∧ ∀ w', Below w8.heap.size w8 w' → TA.p w' p3 := ⟨trivial, fun _ h => TA.below hp3 h⟩
    have hv : True ∧ ∀ w', Below w8.heap.size w8 w' → TY.p w' v := ⟨trivial, fun _ h => TY.below hv h⟩
    have hb4 : True ∧ ∀ w', Below w8.heap.size w8 w' → Blk w' g4 StT #[.int .u64 0, nilS] := ⟨trivial, fun _ h => hb4.below h⟩
    have hb5 : True ∧ ∀ w', Below w8.heap.size w8 w' → Blk w' g5 40 zeroT := ⟨trivial, fun _ h => hb5.below h⟩
    replace hB := Below.refl w8.heap.size w8
    refine wp_region_lit ?_
    refine' tlOp hF rfl rfl rfl ?_ ?_
    rotate_left
    · exact cAkA2 rfl (.l rfl (hp3.2 _ hB))
    intro a w9_0 hF hb
    replace hB := hB.trans (hb.mono hB.size)
    have hz_w9_0 := hB.size
    refine' tlOp hF rfl rfl rfl ?_ ?_
    rotate_left
    · exact cLdU64 rfl (.t rfl)
    intro a w9_1 hF hb
    replace hB := hB.trans (hb.mono hB.size)
    have hz_w9_1 := hB.size
    refine' tlOp hF rfl rfl rfl ?_ ?_
    rotate_left
    · exact cAkA1 rfl (.l rfl (hp3.2 _ hB))
    intro a w9_2 hF hb
    replace hB := hB.trans (hb.mono hB.size)
    have hz_w9_2 := hB.size
    refine' tlOp hF rfl rfl rfl ?_ ?_
    rotate_left
    · exact cLdInt rfl (.t rfl)
    intro a w9_3 hF hb
    replace hB := hB.trans (hb.mono hB.size)
    have hz_w9_3 := hB.size
    refine' tlOp hF rfl rfl rfl ?_ ?_
    rotate_left
    · exact cMove rfl rfl
    intro a w9_4 hF hb
    replace hB := hB.trans (hb.mono hB.size)
    have hz_w9_4 := hB.size
    refine' tlOp hF rfl rfl rfl ?_ ?_
    rotate_left
    · exact cCallR3 rfl (.t rfl) (.t rfl) (.l rfl (hv.2 _ hB)) o1 (tabE_olds _ _ _ _)
    intro a w9_5 hF hb
    replace hB := hB.trans (hb.mono hB.size)
    have hz_w9_5 := hB.size
    refine' tlOp hF rfl rfl rfl ?_ ?_
    rotate_left
    · exact cMove rfl rfl
    intro a w9_6 hF hb
    replace hB := hB.trans (hb.mono hB.size)
    have hz_w9_6 := hB.size
    refine' tlOp hF rfl rfl rfl ?_ ?_
    rotate_left
    · exact cExtT rfl rfl
    intro a w9_t hF hb
    replace hB := hB.trans (hb.mono hB.size)
    have hz_w9_t := hB.size
    refine' tlOp hF rfl rfl rfl ?_ ?_
    rotate_left
    · exact cExtE rfl rfl
    intro a w9_e hF hb
    replace hB := hB.trans (hb.mono hB.size)
    have hz_w9_e := hB.size
    have hBa := hB
    refine tlNewTabS2 hF rfl rfl rfl (by decide) rfl (run_alloc_i infoT46) rfl rfl rfl rfl sizeT46 fun a w9_n s hF hb hbT hsT => ?_
    replace hB := hB.trans (hb.mono hB.size)
    refine' tlOp hF rfl rfl rfl ?_ ?_
    rotate_left
    · exact cAssign rfl rfl
    intro a w9 hF hb
    replace hB := hB.trans (hb.mono hB.size)
    have hz_w9 := hB.size
    try (refine wpList_nil ?_)
    repeat with_reducible first | refine wp_seq ?_ | refine nThen ?_
    replace hbT := hbT.below hb
    replace hsT := (Ty.seg _ 69 65 _ _).below hsT hb
    obtain ⟨S8, hs8, hS8⟩ := hsT
    obtain ⟨g8, eg⟩ : ∃ g, g = w9_e.heap.size := ⟨_, rfl⟩
    rw [← eg] at hbT hF
    have hb4 := hb4.2 _ hB
    have hb5 := hb5.2 _ hB
    have hB := hB0.trans (hB.mono hw80)
    replace hF := hF.as hF (s := 8) (σ := Ty.at_ 40 [.int .u64 (sd : Int), s]) rfl (fun v hv => by
      have hv : v = .pointer (some ⟨g8, 0, none⟩) := hv
      subst hv
      exact ⟨g8, 0, _, (0, 0), rfl, hbT, fun j u h => by simpa using h⟩)
    replace hF := hF.as hF (s := 4) (σ := Ty.var w StT #[.int .u64 0, nilS]) rfl (fun v hv => ⟨g4, hv, by omega, hb4⟩)
    replace hF := hF.as hF (s := 5) (σ := Ty.var w 40 zeroT) rfl (fun v hv => ⟨g5, hv, by omega, hb5⟩)
    replace hF := hF.as hF (s := 0) (σ := Ty.clsG 69 (ofL sd n Y) s) rfl (fun v hv => hs8.sl)
    have hone := sl_one hs8.sl sd
    refine wp_mono (Q := fun e a w' => e = .normal ∧ Fr 52 [(0, Ty.clsG 69 (ofL sd n Y) s), (4, Ty.at_ StT [.int .u64 0, nilS]), (5, Ty.at_ 40 [.int .u64 (sd : Int), s]), (6, Ty.ex nilS), (7, Ty.ex (.int .i64 0))] a w' ∧ Below w.heap.size w w') ?_ ?_
    · replace hF := (hF.keep [0, 4, 5, 8, 9]).below (Below.refl _ _).drew
      dsimp only [pick, look] at hF
      replace hB := hB.trans ((Below.refl _ _).drew.mono hB.size)
      refine wp_region_any mixed ?_
      refine (show wpAny _ _ _ _ 7 _ _ _ from ?_)
      refine wpAny_ready (rs := [0, 1, 2]) (by kernel_rfl) (by simp) ?_
      refine AllReady.cons rfl (fun K hK => ?_) ?_
      · refine anyOp hF hB rfl rfl rfl (cBuildE rfl (fun w => buildSt0R w)) fun a w hF hB => hK _ _ ?_
        refine wpAny_ready (rs := [1, 2, 3]) (by kernel_rfl) (by simp) ?_
        refine AllReady.cons rfl (fun K hK => ?_) ?_
        · refine anyOp hF hB rfl rfl rfl (cLoadT46 rfl (.t rfl)) fun a w hF hB => hK _ _ ?_
          refine wpAny_ready (rs := [2, 3]) (by kernel_rfl) (by simp) ?_
          refine AllReady.cons rfl (fun K hK => ?_) ?_
          · refine anyOp hF hB rfl rfl rfl (cMove rfl rfl) fun a w hF hB => hK _ _ ?_
            refine wpAny_ready (rs := [3]) (by kernel_rfl) (by simp) ?_
            refine AllReady.cons rfl (fun K hK => ?_) ?_
            · refine anyStore (hF.keep [0, 4, 5, 8, 9, 39, 40, 41]) hB rfl rfl rfl rfl rfl rfl sizeStA (by simp [Value.cells, Value.oneCell']) rfl rfl fun a w hF hB => hK _ _ ?_
              refine wpAny_ready (rs := [4]) (by kernel_rfl) (by simp) ?_
              refine AllReady.cons rfl (fun K hK => ?_) ?_
              · refine anyStore (hF.keep [0, 4, 5, 9, 40, 41]) hB rfl rfl rfl rfl rfl rfl sizeT46 hone rfl rfl fun a w hF hB => hK _ _ ?_
                refine wpAny_ready (rs := [5]) (by kernel_rfl) (by simp) ?_
                refine AllReady.cons rfl (fun K hK => ?_) ?_
                · refine anyOp hF hB rfl rfl rfl (cAssign rfl rfl) fun a w hF hB => hK _ _ ?_
                  refine wpAny_ready (rs := [6]) (by kernel_rfl) (by simp) ?_
                  refine AllReady.cons rfl (fun K hK => ?_) ?_
                  · refine anyOp hF hB rfl rfl rfl (cAssign rfl rfl) fun a w hF hB => hK _ _ ?_
                    refine wpAny_done (by kernel_rfl) ?_ _
                    exact ⟨rfl, hF.keep [0, 4, 5, 6, 7], hB⟩
                  exact AllReady.nil
                exact AllReady.nil
              exact AllReady.nil
            exact AllReady.nil
          refine AllReady.cons rfl (fun K hK => ?_) ?_
          · refine anyStore (hF.keep [0, 4, 5, 8, 9, 39, 40, 41]) hB rfl rfl rfl rfl rfl rfl sizeStA (by simp [Value.cells, Value.oneCell']) rfl rfl fun a w hF hB => hK _ _ ?_
            refine wpAny_ready (rs := [2, 4]) (by kernel_rfl) (by simp) ?_
            refine AllReady.cons rfl (fun K hK => ?_) ?_
            · refine anyOp hF hB rfl rfl rfl (cMove rfl rfl) fun a w hF hB => hK _ _ ?_
              refine wpAny_ready (rs := [4]) (by kernel_rfl) (by simp) ?_
              refine AllReady.cons rfl (fun K hK => ?_) ?_
              · refine anyStore (hF.keep [0, 4, 5, 9, 40, 41]) hB rfl rfl rfl rfl rfl rfl sizeT46 hone rfl rfl fun a w hF hB => hK _ _ ?_
                refine wpAny_ready (rs := [5]) (by kernel_rfl) (by simp) ?_
                refine AllReady.cons rfl (fun K hK => ?_) ?_
                · refine anyOp hF hB rfl rfl rfl (cAssign rfl rfl) fun a w hF hB => hK _ _ ?_
                  refine wpAny_ready (rs := [6]) (by kernel_rfl) (by simp) ?_
                  refine AllReady.cons rfl (fun K hK => ?_) ?_
                  · refine anyOp hF hB rfl rfl rfl (cAssign rfl rfl) fun a w hF hB => hK _ _ ?_
                    refine wpAny_done (by kernel_rfl) ?_ _
                    exact ⟨rfl, hF.keep [0, 4, 5, 6, 7], hB⟩
                  exact AllReady.nil
                exact AllReady.nil
              exact AllReady.nil
            refine AllReady.cons rfl (fun K hK => ?_) ?_
            · refine anyStore (hF.keep [0, 4, 5, 9, 40, 41]) hB rfl rfl rfl rfl rfl rfl sizeT46 hone rfl rfl fun a w hF hB => hK _ _ ?_
              refine wpAny_ready (rs := [2, 5]) (by kernel_rfl) (by simp) ?_
              refine AllReady.cons rfl (fun K hK => ?_) ?_
              · refine anyOp hF hB rfl rfl rfl (cMove rfl rfl) fun a w hF hB => hK _ _ ?_
                refine wpAny_ready (rs := [5]) (by kernel_rfl) (by simp) ?_
                refine AllReady.cons rfl (fun K hK => ?_) ?_
                · refine anyOp hF hB rfl rfl rfl (cAssign rfl rfl) fun a w hF hB => hK _ _ ?_
                  refine wpAny_ready (rs := [6]) (by kernel_rfl) (by simp) ?_
                  refine AllReady.cons rfl (fun K hK => ?_) ?_
                  · refine anyOp hF hB rfl rfl rfl (cAssign rfl rfl) fun a w hF hB => hK _ _ ?_
                    refine wpAny_done (by kernel_rfl) ?_ _
                    exact ⟨rfl, hF.keep [0, 4, 5, 6, 7], hB⟩
                  exact AllReady.nil
                exact AllReady.nil
              refine AllReady.cons rfl (fun K hK => ?_) ?_
              · refine anyOp hF hB rfl rfl rfl (cAssign rfl rfl) fun a w hF hB => hK _ _ ?_
                refine wpAny_ready (rs := [2]) (by kernel_rfl) (by simp) ?_
                refine AllReady.cons rfl (fun K hK => ?_) ?_
                · refine anyOp hF hB rfl rfl rfl (cMove rfl rfl) fun a w hF hB => hK _ _ ?_
                  refine wpAny_ready (rs := [6]) (by kernel_rfl) (by simp) ?_
                  refine AllReady.cons rfl (fun K hK => ?_) ?_
                  · refine anyOp hF hB rfl rfl rfl (cAssign rfl rfl) fun a w hF hB => hK _ _ ?_
                    refine wpAny_done (by kernel_rfl) ?_ _
                    exact ⟨rfl, hF.keep [0, 4, 5, 6, 7], hB⟩
                  exact AllReady.nil
                exact AllReady.nil
              exact AllReady.nil
            exact AllReady.nil
          exact AllReady.nil
        refine AllReady.cons rfl (fun K hK => ?_) ?_
        · refine anyOp hF hB rfl rfl rfl (cMove rfl rfl) fun a w hF hB => hK _ _ ?_
          refine wpAny_ready (rs := [1, 3]) (by kernel_rfl) (by simp) ?_
          refine AllReady.cons rfl (fun K hK => ?_) ?_
          · refine anyOp hF hB rfl rfl rfl (cLoadT46 rfl (.t rfl)) fun a w hF hB => hK _ _ ?_
            refine wpAny_ready (rs := [3]) (by kernel_rfl) (by simp) ?_
            refine AllReady.cons rfl (fun K hK => ?_) ?_
            · refine anyStore (hF.keep [0, 4, 5, 8, 9, 39, 40, 41]) hB rfl rfl rfl rfl rfl rfl sizeStA (by simp [Value.cells, Value.oneCell']) rfl rfl fun a w hF hB => hK _ _ ?_
              refine wpAny_ready (rs := [4]) (by kernel_rfl) (by simp) ?_
              refine AllReady.cons rfl (fun K hK => ?_) ?_
              · refine anyStore (hF.keep [0, 4, 5, 9, 40, 41]) hB rfl rfl rfl rfl rfl rfl sizeT46 hone rfl rfl fun a w hF hB => hK _ _ ?_
                refine wpAny_ready (rs := [5]) (by kernel_rfl) (by simp) ?_
                refine AllReady.cons rfl (fun K hK => ?_) ?_
                · refine anyOp hF hB rfl rfl rfl (cAssign rfl rfl) fun a w hF hB => hK _ _ ?_
                  refine wpAny_ready (rs := [6]) (by kernel_rfl) (by simp) ?_
                  refine AllReady.cons rfl (fun K hK => ?_) ?_
                  · refine anyOp hF hB rfl rfl rfl (cAssign rfl rfl) fun a w hF hB => hK _ _ ?_
                    refine wpAny_done (by kernel_rfl) ?_ _
                    exact ⟨rfl, hF.keep [0, 4, 5, 6, 7], hB⟩
                  exact AllReady.nil
                exact AllReady.nil
              exact AllReady.nil
            exact AllReady.nil
          refine AllReady.cons rfl (fun K hK => ?_) ?_
          · refine anyStore (hF.keep [0, 4, 5, 8, 9, 39, 40, 41]) hB rfl rfl rfl rfl rfl rfl sizeStA (by simp [Value.cells, Value.oneCell']) rfl rfl fun a w hF hB => hK _ _ ?_
            refine wpAny_ready (rs := [1]) (by kernel_rfl) (by simp) ?_
            refine AllReady.cons rfl (fun K hK => ?_) ?_
            · refine anyOp hF hB rfl rfl rfl (cLoadT46 rfl (.t rfl)) fun a w hF hB => hK _ _ ?_
              refine wpAny_ready (rs := [4]) (by kernel_rfl) (by simp) ?_
              refine AllReady.cons rfl (fun K hK => ?_) ?_
              · refine anyStore (hF.keep [0, 4, 5, 9, 40, 41]) hB rfl rfl rfl rfl rfl rfl sizeT46 hone rfl rfl fun a w hF hB => hK _ _ ?_
                refine wpAny_ready (rs := [5]) (by kernel_rfl) (by simp) ?_
                refine AllReady.cons rfl (fun K hK => ?_) ?_
                · refine anyOp hF hB rfl rfl rfl (cAssign rfl rfl) fun a w hF hB => hK _ _ ?_
                  refine wpAny_ready (rs := [6]) (by kernel_rfl) (by simp) ?_
                  refine AllReady.cons rfl (fun K hK => ?_) ?_
                  · refine anyOp hF hB rfl rfl rfl (cAssign rfl rfl) fun a w hF hB => hK _ _ ?_
                    refine wpAny_done (by kernel_rfl) ?_ _
                    exact ⟨rfl, hF.keep [0, 4, 5, 6, 7], hB⟩
                  exact AllReady.nil
                exact AllReady.nil
              exact AllReady.nil
            exact AllReady.nil
          exact AllReady.nil
        refine AllReady.cons rfl (fun K hK => ?_) ?_
        · refine anyStore (hF.keep [0, 4, 5, 8, 9, 39, 40, 41]) hB rfl rfl rfl rfl rfl rfl sizeStA (by simp [Value.cells, Value.oneCell']) rfl rfl fun a w hF hB => hK _ _ ?_
          refine wpAny_ready (rs := [1, 2]) (by kernel_rfl) (by simp) ?_
          refine AllReady.cons rfl (fun K hK => ?_) ?_
          · refine anyOp hF hB rfl rfl rfl (cLoadT46 rfl (.t rfl)) fun a w hF hB => hK _ _ ?_
            refine wpAny_ready (rs := [2, 4]) (by kernel_rfl) (by simp) ?_
            refine AllReady.cons rfl (fun K hK => ?_) ?_
            · refine anyOp hF hB rfl rfl rfl (cMove rfl rfl) fun a w hF hB => hK _ _ ?_
              refine wpAny_ready (rs := [4]) (by kernel_rfl) (by simp) ?_
              refine AllReady.cons rfl (fun K hK => ?_) ?_
              · refine anyStore (hF.keep [0, 4, 5, 9, 40, 41]) hB rfl rfl rfl rfl rfl rfl sizeT46 hone rfl rfl fun a w hF hB => hK _ _ ?_
                refine wpAny_ready (rs := [5]) (by kernel_rfl) (by simp) ?_
                refine AllReady.cons rfl (fun K hK => ?_) ?_
                · refine anyOp hF hB rfl rfl rfl (cAssign rfl rfl) fun a w hF hB => hK _ _ ?_
                  refine wpAny_ready (rs := [6]) (by kernel_rfl) (by simp) ?_
                  refine AllReady.cons rfl (fun K hK => ?_) ?_
                  · refine anyOp hF hB rfl rfl rfl (cAssign rfl rfl) fun a w hF hB => hK _ _ ?_
                    refine wpAny_done (by kernel_rfl) ?_ _
                    exact ⟨rfl, hF.keep [0, 4, 5, 6, 7], hB⟩
                  exact AllReady.nil
                exact AllReady.nil
              exact AllReady.nil
            refine AllReady.cons rfl (fun K hK => ?_) ?_
            · refine anyStore (hF.keep [0, 4, 5, 9, 40, 41]) hB rfl rfl rfl rfl rfl rfl sizeT46 hone rfl rfl fun a w hF hB => hK _ _ ?_
              refine wpAny_ready (rs := [2, 5]) (by kernel_rfl) (by simp) ?_
              refine AllReady.cons rfl (fun K hK => ?_) ?_
              · refine anyOp hF hB rfl rfl rfl (cMove rfl rfl) fun a w hF hB => hK _ _ ?_
                refine wpAny_ready (rs := [5]) (by kernel_rfl) (by simp) ?_
                refine AllReady.cons rfl (fun K hK => ?_) ?_
                · refine anyOp hF hB rfl rfl rfl (cAssign rfl rfl) fun a w hF hB => hK _ _ ?_
                  refine wpAny_ready (rs := [6]) (by kernel_rfl) (by simp) ?_
                  refine AllReady.cons rfl (fun K hK => ?_) ?_
                  · refine anyOp hF hB rfl rfl rfl (cAssign rfl rfl) fun a w hF hB => hK _ _ ?_
                    refine wpAny_done (by kernel_rfl) ?_ _
                    exact ⟨rfl, hF.keep [0, 4, 5, 6, 7], hB⟩
                  exact AllReady.nil
                exact AllReady.nil
              refine AllReady.cons rfl (fun K hK => ?_) ?_
              · refine anyOp hF hB rfl rfl rfl (cAssign rfl rfl) fun a w hF hB => hK _ _ ?_
                refine wpAny_ready (rs := [2]) (by kernel_rfl) (by simp) ?_
                refine AllReady.cons rfl (fun K hK => ?_) ?_
                · refine anyOp hF hB rfl rfl rfl (cMove rfl rfl) fun a w hF hB => hK _ _ ?_
                  refine wpAny_ready (rs := [6]) (by kernel_rfl) (by simp) ?_
                  refine AllReady.cons rfl (fun K hK => ?_) ?_
                  · refine anyOp hF hB rfl rfl rfl (cAssign rfl rfl) fun a w hF hB => hK _ _ ?_
                    refine wpAny_done (by kernel_rfl) ?_ _
                    exact ⟨rfl, hF.keep [0, 4, 5, 6, 7], hB⟩
                  exact AllReady.nil
                exact AllReady.nil
              exact AllReady.nil
            exact AllReady.nil
          refine AllReady.cons rfl (fun K hK => ?_) ?_
          · refine anyOp hF hB rfl rfl rfl (cMove rfl rfl) fun a w hF hB => hK _ _ ?_
            refine wpAny_ready (rs := [1]) (by kernel_rfl) (by simp) ?_
            refine AllReady.cons rfl (fun K hK => ?_) ?_
            · refine anyOp hF hB rfl rfl rfl (cLoadT46 rfl (.t rfl)) fun a w hF hB => hK _ _ ?_
              refine wpAny_ready (rs := [4]) (by kernel_rfl) (by simp) ?_
              refine AllReady.cons rfl (fun K hK => ?_) ?_
              · refine anyStore (hF.keep [0, 4, 5, 9, 40, 41]) hB rfl rfl rfl rfl rfl rfl sizeT46 hone rfl rfl fun a w hF hB => hK _ _ ?_
                refine wpAny_ready (rs := [5]) (by kernel_rfl) (by simp) ?_
                refine AllReady.cons rfl (fun K hK => ?_) ?_
                · refine anyOp hF hB rfl rfl rfl (cAssign rfl rfl) fun a w hF hB => hK _ _ ?_
                  refine wpAny_ready (rs := [6]) (by kernel_rfl) (by simp) ?_
                  refine AllReady.cons rfl (fun K hK => ?_) ?_
                  · refine anyOp hF hB rfl rfl rfl (cAssign rfl rfl) fun a w hF hB => hK _ _ ?_
                    refine wpAny_done (by kernel_rfl) ?_ _
                    exact ⟨rfl, hF.keep [0, 4, 5, 6, 7], hB⟩
                  exact AllReady.nil
                exact AllReady.nil
              exact AllReady.nil
            exact AllReady.nil
          exact AllReady.nil
        exact AllReady.nil
      refine AllReady.cons rfl (fun K hK => ?_) ?_
      · refine anyOp hF hB rfl rfl rfl (cLoadT46 rfl (.t rfl)) fun a w hF hB => hK _ _ ?_
        refine wpAny_ready (rs := [0, 2]) (by kernel_rfl) (by simp) ?_
        refine AllReady.cons rfl (fun K hK => ?_) ?_
        · refine anyOp hF hB rfl rfl rfl (cBuildE rfl (fun w => buildSt0R w)) fun a w hF hB => hK _ _ ?_
          refine wpAny_ready (rs := [2, 3]) (by kernel_rfl) (by simp) ?_
          refine AllReady.cons rfl (fun K hK => ?_) ?_
          · refine anyOp hF hB rfl rfl rfl (cMove rfl rfl) fun a w hF hB => hK _ _ ?_
            refine wpAny_ready (rs := [3]) (by kernel_rfl) (by simp) ?_
            refine AllReady.cons rfl (fun K hK => ?_) ?_
            · refine anyStore (hF.keep [0, 4, 5, 8, 9, 39, 40, 41]) hB rfl rfl rfl rfl rfl rfl sizeStA (by simp [Value.cells, Value.oneCell']) rfl rfl fun a w hF hB => hK _ _ ?_
              refine wpAny_ready (rs := [4]) (by kernel_rfl) (by simp) ?_
              refine AllReady.cons rfl (fun K hK => ?_) ?_
              · refine anyStore (hF.keep [0, 4, 5, 9, 40, 41]) hB rfl rfl rfl rfl rfl rfl sizeT46 hone rfl rfl fun a w hF hB => hK _ _ ?_
                refine wpAny_ready (rs := [5]) (by kernel_rfl) (by simp) ?_
                refine AllReady.cons rfl (fun K hK => ?_) ?_
                · refine anyOp hF hB rfl rfl rfl (cAssign rfl rfl) fun a w hF hB => hK _ _ ?_
                  refine wpAny_ready (rs := [6]) (by kernel_rfl) (by simp) ?_
                  refine AllReady.cons rfl (fun K hK => ?_) ?_
                  · refine anyOp hF hB rfl rfl rfl (cAssign rfl rfl) fun a w hF hB => hK _ _ ?_
                    refine wpAny_done (by kernel_rfl) ?_ _
                    exact ⟨rfl, hF.keep [0, 4, 5, 6, 7], hB⟩
                  exact AllReady.nil
                exact AllReady.nil
              exact AllReady.nil
            exact AllReady.nil
          refine AllReady.cons rfl (fun K hK => ?_) ?_
          · refine anyStore (hF.keep [0, 4, 5, 8, 9, 39, 40, 41]) hB rfl rfl rfl rfl rfl rfl sizeStA (by simp [Value.cells, Value.oneCell']) rfl rfl fun a w hF hB => hK _ _ ?_
            refine wpAny_ready (rs := [2, 4]) (by kernel_rfl) (by simp) ?_
            refine AllReady.cons rfl (fun K hK => ?_) ?_
            · refine anyOp hF hB rfl rfl rfl (cMove rfl rfl) fun a w hF hB => hK _ _ ?_
              refine wpAny_ready (rs := [4]) (by kernel_rfl) (by simp) ?_
              refine AllReady.cons rfl (fun K hK => ?_) ?_
              · refine anyStore (hF.keep [0, 4, 5, 9, 40, 41]) hB rfl rfl rfl rfl rfl rfl sizeT46 hone rfl rfl fun a w hF hB => hK _ _ ?_
                refine wpAny_ready (rs := [5]) (by kernel_rfl) (by simp) ?_
                refine AllReady.cons rfl (fun K hK => ?_) ?_
                · refine anyOp hF hB rfl rfl rfl (cAssign rfl rfl) fun a w hF hB => hK _ _ ?_
                  refine wpAny_ready (rs := [6]) (by kernel_rfl) (by simp) ?_
                  refine AllReady.cons rfl (fun K hK => ?_) ?_
                  · refine anyOp hF hB rfl rfl rfl (cAssign rfl rfl) fun a w hF hB => hK _ _ ?_
                    refine wpAny_done (by kernel_rfl) ?_ _
                    exact ⟨rfl, hF.keep [0, 4, 5, 6, 7], hB⟩
                  exact AllReady.nil
                exact AllReady.nil
              exact AllReady.nil
            refine AllReady.cons rfl (fun K hK => ?_) ?_
            · refine anyStore (hF.keep [0, 4, 5, 9, 40, 41]) hB rfl rfl rfl rfl rfl rfl sizeT46 hone rfl rfl fun a w hF hB => hK _ _ ?_
              refine wpAny_ready (rs := [2, 5]) (by kernel_rfl) (by simp) ?_
              refine AllReady.cons rfl (fun K hK => ?_) ?_
              · refine anyOp hF hB rfl rfl rfl (cMove rfl rfl) fun a w hF hB => hK _ _ ?_
                refine wpAny_ready (rs := [5]) (by kernel_rfl) (by simp) ?_
                refine AllReady.cons rfl (fun K hK => ?_) ?_
                · refine anyOp hF hB rfl rfl rfl (cAssign rfl rfl) fun a w hF hB => hK _ _ ?_
                  refine wpAny_ready (rs := [6]) (by kernel_rfl) (by simp) ?_
                  refine AllReady.cons rfl (fun K hK => ?_) ?_
                  · refine anyOp hF hB rfl rfl rfl (cAssign rfl rfl) fun a w hF hB => hK _ _ ?_
                    refine wpAny_done (by kernel_rfl) ?_ _
                    exact ⟨rfl, hF.keep [0, 4, 5, 6, 7], hB⟩
                  exact AllReady.nil
                exact AllReady.nil
              refine AllReady.cons rfl (fun K hK => ?_) ?_
              · refine anyOp hF hB rfl rfl rfl (cAssign rfl rfl) fun a w hF hB => hK _ _ ?_
                refine wpAny_ready (rs := [2]) (by kernel_rfl) (by simp) ?_
                refine AllReady.cons rfl (fun K hK => ?_) ?_
                · refine anyOp hF hB rfl rfl rfl (cMove rfl rfl) fun a w hF hB => hK _ _ ?_
                  refine wpAny_ready (rs := [6]) (by kernel_rfl) (by simp) ?_
                  refine AllReady.cons rfl (fun K hK => ?_) ?_
                  · refine anyOp hF hB rfl rfl rfl (cAssign rfl rfl) fun a w hF hB => hK _ _ ?_
                    refine wpAny_done (by kernel_rfl) ?_ _
                    exact ⟨rfl, hF.keep [0, 4, 5, 6, 7], hB⟩
                  exact AllReady.nil
                exact AllReady.nil
              exact AllReady.nil
            exact AllReady.nil
          exact AllReady.nil
        refine AllReady.cons rfl (fun K hK => ?_) ?_
        · refine anyOp hF hB rfl rfl rfl (cMove rfl rfl) fun a w hF hB => hK _ _ ?_
          refine wpAny_ready (rs := [0]) (by kernel_rfl) (by simp) ?_
          refine AllReady.cons rfl (fun K hK => ?_) ?_
          · refine anyOp hF hB rfl rfl rfl (cBuildE rfl (fun w => buildSt0R w)) fun a w hF hB => hK _ _ ?_
            refine wpAny_ready (rs := [3]) (by kernel_rfl) (by simp) ?_
            refine AllReady.cons rfl (fun K hK => ?_) ?_
            · refine anyStore (hF.keep [0, 4, 5, 8, 9, 39, 40, 41]) hB rfl rfl rfl rfl rfl rfl sizeStA (by simp [Value.cells, Value.oneCell']) rfl rfl fun a w hF hB => hK _ _ ?_
              refine wpAny_ready (rs := [4]) (by kernel_rfl) (by simp) ?_
              refine AllReady.cons rfl (fun K hK => ?_) ?_
              · refine anyStore (hF.keep [0, 4, 5, 9, 40, 41]) hB rfl rfl rfl rfl rfl rfl sizeT46 hone rfl rfl fun a w hF hB => hK _ _ ?_
                refine wpAny_ready (rs := [5]) (by kernel_rfl) (by simp) ?_
                refine AllReady.cons rfl (fun K hK => ?_) ?_
                · refine anyOp hF hB rfl rfl rfl (cAssign rfl rfl) fun a w hF hB => hK _ _ ?_
                  refine wpAny_ready (rs := [6]) (by kernel_rfl) (by simp) ?_
                  refine AllReady.cons rfl (fun K hK => ?_) ?_
                  · refine anyOp hF hB rfl rfl rfl (cAssign rfl rfl) fun a w hF hB => hK _ _ ?_
                    refine wpAny_done (by kernel_rfl) ?_ _
                    exact ⟨rfl, hF.keep [0, 4, 5, 6, 7], hB⟩
                  exact AllReady.nil
                exact AllReady.nil
              exact AllReady.nil
            exact AllReady.nil
          exact AllReady.nil
        exact AllReady.nil
      refine AllReady.cons rfl (fun K hK => ?_) ?_
      · refine anyOp hF hB rfl rfl rfl (cMove rfl rfl) fun a w hF hB => hK _ _ ?_
        refine wpAny_ready (rs := [0, 1]) (by kernel_rfl) (by simp) ?_
        refine AllReady.cons rfl (fun K hK => ?_) ?_
        · refine anyOp hF hB rfl rfl rfl (cBuildE rfl (fun w => buildSt0R w)) fun a w hF hB => hK _ _ ?_
          refine wpAny_ready (rs := [1, 3]) (by kernel_rfl) (by simp) ?_
          refine AllReady.cons rfl (fun K hK => ?_) ?_
          · refine anyOp hF hB rfl rfl rfl (cLoadT46 rfl (.t rfl)) fun a w hF hB => hK _ _ ?_
            refine wpAny_ready (rs := [3]) (by kernel_rfl) (by simp) ?_
            refine AllReady.cons rfl (fun K hK => ?_) ?_
            · refine anyStore (hF.keep [0, 4, 5, 8, 9, 39, 40, 41]) hB rfl rfl rfl rfl rfl rfl sizeStA (by simp [Value.cells, Value.oneCell']) rfl rfl fun a w hF hB => hK _ _ ?_
              refine wpAny_ready (rs := [4]) (by kernel_rfl) (by simp) ?_
              refine AllReady.cons rfl (fun K hK => ?_) ?_
              · refine anyStore (hF.keep [0, 4, 5, 9, 40, 41]) hB rfl rfl rfl rfl rfl rfl sizeT46 hone rfl rfl fun a w hF hB => hK _ _ ?_
                refine wpAny_ready (rs := [5]) (by kernel_rfl) (by simp) ?_
                refine AllReady.cons rfl (fun K hK => ?_) ?_
                · refine anyOp hF hB rfl rfl rfl (cAssign rfl rfl) fun a w hF hB => hK _ _ ?_
                  refine wpAny_ready (rs := [6]) (by kernel_rfl) (by simp) ?_
                  refine AllReady.cons rfl (fun K hK => ?_) ?_
                  · refine anyOp hF hB rfl rfl rfl (cAssign rfl rfl) fun a w hF hB => hK _ _ ?_
                    refine wpAny_done (by kernel_rfl) ?_ _
                    exact ⟨rfl, hF.keep [0, 4, 5, 6, 7], hB⟩
                  exact AllReady.nil
                exact AllReady.nil
              exact AllReady.nil
            exact AllReady.nil
          refine AllReady.cons rfl (fun K hK => ?_) ?_
          · refine anyStore (hF.keep [0, 4, 5, 8, 9, 39, 40, 41]) hB rfl rfl rfl rfl rfl rfl sizeStA (by simp [Value.cells, Value.oneCell']) rfl rfl fun a w hF hB => hK _ _ ?_
            refine wpAny_ready (rs := [1]) (by kernel_rfl) (by simp) ?_
            refine AllReady.cons rfl (fun K hK => ?_) ?_
            · refine anyOp hF hB rfl rfl rfl (cLoadT46 rfl (.t rfl)) fun a w hF hB => hK _ _ ?_
              refine wpAny_ready (rs := [4]) (by kernel_rfl) (by simp) ?_
              refine AllReady.cons rfl (fun K hK => ?_) ?_
              · refine anyStore (hF.keep [0, 4, 5, 9, 40, 41]) hB rfl rfl rfl rfl rfl rfl sizeT46 hone rfl rfl fun a w hF hB => hK _ _ ?_
                refine wpAny_ready (rs := [5]) (by kernel_rfl) (by simp) ?_
                refine AllReady.cons rfl (fun K hK => ?_) ?_
                · refine anyOp hF hB rfl rfl rfl (cAssign rfl rfl) fun a w hF hB => hK _ _ ?_
                  refine wpAny_ready (rs := [6]) (by kernel_rfl) (by simp) ?_
                  refine AllReady.cons rfl (fun K hK => ?_) ?_
                  · refine anyOp hF hB rfl rfl rfl (cAssign rfl rfl) fun a w hF hB => hK _ _ ?_
                    refine wpAny_done (by kernel_rfl) ?_ _
                    exact ⟨rfl, hF.keep [0, 4, 5, 6, 7], hB⟩
                  exact AllReady.nil
                exact AllReady.nil
              exact AllReady.nil
            exact AllReady.nil
          exact AllReady.nil
        refine AllReady.cons rfl (fun K hK => ?_) ?_
        · refine anyOp hF hB rfl rfl rfl (cLoadT46 rfl (.t rfl)) fun a w hF hB => hK _ _ ?_
          refine wpAny_ready (rs := [0]) (by kernel_rfl) (by simp) ?_
          refine AllReady.cons rfl (fun K hK => ?_) ?_
          · refine anyOp hF hB rfl rfl rfl (cBuildE rfl (fun w => buildSt0R w)) fun a w hF hB => hK _ _ ?_
            refine wpAny_ready (rs := [3]) (by kernel_rfl) (by simp) ?_
            refine AllReady.cons rfl (fun K hK => ?_) ?_
            · refine anyStore (hF.keep [0, 4, 5, 8, 9, 39, 40, 41]) hB rfl rfl rfl rfl rfl rfl sizeStA (by simp [Value.cells, Value.oneCell']) rfl rfl fun a w hF hB => hK _ _ ?_
              refine wpAny_ready (rs := [4]) (by kernel_rfl) (by simp) ?_
              refine AllReady.cons rfl (fun K hK => ?_) ?_
              · refine anyStore (hF.keep [0, 4, 5, 9, 40, 41]) hB rfl rfl rfl rfl rfl rfl sizeT46 hone rfl rfl fun a w hF hB => hK _ _ ?_
                refine wpAny_ready (rs := [5]) (by kernel_rfl) (by simp) ?_
                refine AllReady.cons rfl (fun K hK => ?_) ?_
                · refine anyOp hF hB rfl rfl rfl (cAssign rfl rfl) fun a w hF hB => hK _ _ ?_
                  refine wpAny_ready (rs := [6]) (by kernel_rfl) (by simp) ?_
                  refine AllReady.cons rfl (fun K hK => ?_) ?_
                  · refine anyOp hF hB rfl rfl rfl (cAssign rfl rfl) fun a w hF hB => hK _ _ ?_
                    refine wpAny_done (by kernel_rfl) ?_ _
                    exact ⟨rfl, hF.keep [0, 4, 5, 6, 7], hB⟩
                  exact AllReady.nil
                exact AllReady.nil
              exact AllReady.nil
            exact AllReady.nil
          exact AllReady.nil
        exact AllReady.nil
      exact AllReady.nil
    clear hF hB
    rintro e a w10 ⟨rfl, hF, hB⟩
    repeat with_reducible first | refine nThen ?_ | refine wp_ret ?_ | refine rThen ?_ | refine rBlk ?_
    refine retAATT hF rfl rfl rfl rfl rfl Tryz.underlying45 rfl sizeStA Tryz.underlying40 rfl sizeT46 fun v2 v3 k2 k3 => ?_
    obtain ⟨_, _, hcl⟩ := hF.val 0 _ rfl
    exact ⟨_, rfl, ⟨[_, _, v2, v3], rfl, st0_nil _, ⟨s, rfl, hcl⟩, sums_nilS k2, k3, trivial⟩, hB⟩
  refine' reg_all hF ?_ mixed (by kernel_rfl) ?_
  rotate_left
  · repeat (first | exact Line.nil | (refine' Line.cons rfl (.no rfl rfl rfl rfl rfl rfl) ?_; rotate_left) | ((refine' Line.cons rfl (.run rfl rfl ?_) ?_); (any_goals (first | exact cMove rfl rfl | exact cAssign rfl rfl | exact cAkA0 rfl (.l rfl hp3) | exact cLdInt rfl (.t rfl) | exact OpOk.b (c := false) (cEql rfl rfl rfl) (decide_eq_false hk2) | exact cPickF rfl rfl rfl)); rotate_left))
  intro a w8 hF hb hN
  have hBs := hB.size
  replace hB := hB.trans (hb.mono hB.size)
  dsimp only [ext, Option.getD] at hF
  repeat with_reducible refine nThen ?_
  replace hp3 := TA.below hp3 hb
  replace hv := TY.below hv hb
  replace hb4 := hb4.below hb
  replace hb5 := hb5.below hb
  refine cond_f hF rfl ?_
  repeat with_reducible refine wp_seq ?_
  by_cases hk3 : k = 3
  rotate_left
  · have e1 : ansC Y k n = 0 := by unfold ansC; rw [if_pos hg, if_neg hk1, if_neg hk2, if_neg hk3]
    rw [e1]
    refine' reg_all hF ?_ mixed (by kernel_rfl) ?_
    rotate_left
    · repeat (first | exact Line.nil | ((refine' Line.cons rfl (.run rfl rfl ?_) ?_); (any_goals (first | exact cAssign rfl rfl | exact cAkA0 rfl (.l rfl hp3) | exact cLdInt rfl (.t rfl) | exact OpOk.b (c := false) (cEql rfl rfl rfl) (decide_eq_false hk3))); rotate_left))
    intro a w9 hF hb hN
    have hBs := hB.size
    replace hB := hB.trans (hb.mono hB.size)
    dsimp only [ext, Option.getD] at hF
    repeat with_reducible refine nThen ?_
    replace hp3 := TA.below hp3 hb
    replace hv := TY.below hv hb
    replace hb4 := hb4.below hb
    replace hb5 := hb5.below hb
    refine cond_f hF rfl ?_
    repeat with_reducible first | refine wp_seq ?_ | refine nThen ?_ | refine nBlk ?_ | refine wp_skip ?_
    refine wp_region_lit ?_
    refine' tlOp hF rfl rfl rfl ?_ ?_
    rotate_left
    · exact cBuildE rfl (fun w => buildSt0R w)
    intro a x0 hF hb
    have hBs := hB.size
    replace hB := hB.trans (hb.mono hB.size)
    try (refine wpList_nil ?_)
    replace hb4 := hb4.below hb
    replace hb5 := hb5.below hb
    refine' tlOp hF rfl rfl rfl ?_ ?_
    rotate_left
    · exact cBuildE rfl (fun w => buildT046 w)
    intro a x1 hF hb
    have hBs := hB.size
    replace hB := hB.trans (hb.mono hB.size)
    try (refine wpList_nil ?_)
    replace hb4 := hb4.below hb
    replace hb5 := hb5.below hb
    refine tlStoreV (v := .agg #[.int .u64 0, nilS]) (Δ := [(4, Ty.ex (.pointer (some ⟨g4, 0, none⟩))), (5, Ty.ex (.pointer (some ⟨g5, 0, none⟩))), (51, Ty.ex (.agg #[.int .u64 0, nilS]))]) hF rfl rfl rfl rfl (hF.getEx (s := 50) rfl) hb4 rfl sizeStA (by simp [Value.cells, Value.oneCell']) (hF.keep [4, 5, 51]) rfl ?_
    intro x2_a hF hb4n hkx
    replace hb5 := hb5.keeps hkx (by simpa using hne.symm)
    replace hB := below_own hB hkx (by intro y hy; simp only [List.mem_singleton] at hy; omega)
    replace hb4 := hb4n
    clear hb4n hkx
    refine tlStoreV (v := .agg #[.int .u64 0, nilS]) (Δ := [(4, Ty.ex (.pointer (some ⟨g4, 0, none⟩))), (5, Ty.ex (.pointer (some ⟨g5, 0, none⟩)))]) hF rfl rfl rfl rfl (hF.getEx (s := 51) rfl) hb5 rfl sizeT46 (by simp [Value.cells, Value.oneCell']) (hF.keep [4, 5]) rfl ?_
    intro x2_b hF hb5n hkx
    replace hb4 := hb4.keeps hkx (by simpa using hne)
    replace hB := below_own hB hkx (by intro y hy; simp only [List.mem_singleton] at hy; omega)
    replace hb5 := hb5n
    clear hb5n hkx
    refine' tlOp hF rfl rfl rfl ?_ ?_
    rotate_left
    · exact cAssign rfl rfl
    intro a x3 hF hb
    have hBs := hB.size
    replace hB := hB.trans (hb.mono hB.size)
    try (refine wpList_nil ?_)
    replace hb4 := hb4.below hb
    replace hb5 := hb5.below hb
    refine' tlOp hF rfl rfl rfl ?_ ?_
    rotate_left
    · exact cAssign rfl rfl
    intro a x4 hF hb
    have hBs := hB.size
    replace hB := hB.trans (hb.mono hB.size)
    try (refine wpList_nil ?_)
    repeat with_reducible first | refine nThen ?_ | refine wp_ret ?_
    replace hb4 := hb4.below hb
    replace hb5 := hb5.below hb
    refine retCCTT hF rfl rfl rfl rfl rfl hb4 hb5 Tryz.underlying45 rfl sizeStA Tryz.underlying40 rfl sizeT46 fun v2 v3 k2 k3 => ?_
    exact ⟨_, rfl, ⟨[_, _, v2, v3], rfl, st0_nil _, tab0_nil _, sums_nilS k2, k3, trivial⟩, hB⟩
  have e1 : ansC Y k n = 3 := by unfold ansC; rw [if_pos hg, if_neg hk1, if_neg hk2, if_pos hk3]
  rw [e1]
  have hC := cloneL_ty Y hY
  refine' reg_all hF ?_ mixed (by kernel_rfl) ?_
  rotate_left
  · repeat (first | exact Line.nil | ((refine' Line.cons rfl (.run rfl rfl ?_) ?_); (any_goals (first | exact cAssign rfl rfl | exact cAkA0 rfl (.l rfl hp3) | exact cLdInt rfl (.t rfl) | exact OpOk.b (c := true) (cEql rfl rfl rfl) (decide_eq_true hk3))); rotate_left))
  intro a w9 hF hb hN
  have hBs := hB.size
  replace hB := hB.trans (hb.mono hB.size)
  dsimp only [ext, Option.getD] at hF
  repeat with_reducible refine nThen ?_
  replace hp3 := TA.below hp3 hb
  replace hv := TY.below hv hb
  replace hb4 := hb4.below hb
  replace hb5 := hb5.below hb
  refine cond_t hF rfl ?_
  repeat with_reducible refine wp_seq ?_
  refine wp_region_lit ?_
  refine' tlOp hF rfl rfl rfl ?_ ?_
  rotate_left
  · exact cBuildE rfl (fun w => buildSt0R w)
  intro a w10a hF hb
  have hBs := hB.size
  replace hB := hB.trans (hb.mono hB.size)
  try (refine wpList_nil ?_)
  replace hp3 := TA.below hp3 hb
  replace hv := TY.below hv hb
  replace hb4 := hb4.below hb
  replace hb5 := hb5.below hb
  refine' tlOp hF rfl rfl rfl ?_ ?_
  rotate_left
  · exact cBuildE rfl (fun w => buildT046 w)
  intro a w10b hF hb
  have hBs := hB.size
  replace hB := hB.trans (hb.mono hB.size)
  try (refine wpList_nil ?_)
  replace hp3 := TA.below hp3 hb
  replace hv := TY.below hv hb
  replace hb4 := hb4.below hb
  replace hb5 := hb5.below hb
  refine' tlOp hF rfl rfl rfl ?_ ?_
  rotate_left
  · exact cMove rfl rfl
  intro a w10c hF hb
  have hBs := hB.size
  replace hB := hB.trans (hb.mono hB.size)
  try (refine wpList_nil ?_)
  replace hp3 := TA.below hp3 hb
  replace hv := TY.below hv hb
  replace hb4 := hb4.below hb
  replace hb5 := hb5.below hb
  refine' tlOp hF rfl rfl rfl ?_ ?_
  rotate_left
  · exact cCallS1 rfl (.l rfl hv) hC
  intro a w10 hF hb
  have hBs := hB.size
  replace hB := hB.trans (hb.mono hB.size)
  try (refine wpList_nil ?_)
  replace hb4 := hb4.below hb
  replace hb5 := hb5.below hb
  obtain ⟨v49, hv49, hF⟩ := hF.open (s := 49) rfl
  have hv49 : TY.p w10 v49 := seg_sl _ _ hv49
  refine tlStoreV (v := .agg #[.int .u64 0, nilS]) (Δ := [(4, Ty.ex (.pointer (some ⟨g4, 0, none⟩))), (5, Ty.ex (.pointer (some ⟨g5, 0, none⟩))), (47, Ty.ex (.agg #[.int .u64 0, nilS])), (49, Ty.ex v49)]) hF rfl rfl rfl rfl (hF.getEx (s := 46) rfl) hb4 rfl sizeStA (by simp [Value.cells, Value.oneCell']) (hF.keep [4, 5, 47, 49]) rfl ?_
  intro w11_a hF hb4n hkx
  replace hv49 := TY.far hv49 hkx hb4 rfl
  replace hb5 := hb5.keeps hkx (by simpa using hne.symm)
  replace hB := below_own hB hkx (by intro y hy; simp only [List.mem_singleton] at hy; omega)
  replace hb4 := hb4n
  clear hb4n hkx
  refine tlStoreV (v := .agg #[.int .u64 0, nilS]) (Δ := [(4, Ty.ex (.pointer (some ⟨g4, 0, none⟩))), (5, Ty.ex (.pointer (some ⟨g5, 0, none⟩))), (49, Ty.ex v49)]) hF rfl rfl rfl rfl (hF.getEx (s := 47) rfl) hb5 rfl sizeT46 (by simp [Value.cells, Value.oneCell']) (hF.keep [4, 5, 49]) rfl ?_
  intro w11_b hF hb5n hkx
  replace hv49 := TY.far hv49 hkx hb5 rfl
  replace hb4 := hb4.keeps hkx (by simpa using hne)
  replace hB := below_own hB hkx (by intro y hy; simp only [List.mem_singleton] at hy; omega)
  replace hb5 := hb5n
  clear hb5n hkx
  refine' tlOp hF rfl rfl rfl ?_ ?_
  rotate_left
  · exact cAssign rfl rfl
  intro a w12 hF hb
  have hBs := hB.size
  replace hB := hB.trans (hb.mono hB.size)
  try (refine wpList_nil ?_)
  replace hb4 := hb4.below hb
  replace hb5 := hb5.below hb
  replace hv49 := TY.below hv49 hb
  refine' tlOp hF rfl rfl rfl ?_ ?_
  rotate_left
  · exact cAssign rfl rfl
  intro a w13 hF hb
  have hBs := hB.size
  replace hB := hB.trans (hb.mono hB.size)
  try (refine wpList_nil ?_)
  repeat with_reducible first | refine nThen ?_ | refine wp_ret ?_ | refine rThen ?_ | refine rBlk ?_
  replace hb4 := hb4.below hb
  replace hb5 := hb5.below hb
  replace hv49 := TY.below hv49 hb
  refine retCCTT hF rfl rfl rfl rfl rfl hb4 hb5 Tryz.underlying45 rfl sizeStA Tryz.underlying40 rfl sizeT46 fun v2 v3 k2 k3 => ?_
  have k2 : v2 = v49 := k2
  exact ⟨_, rfl, ⟨[_, _, v2, v3], rfl, st0_nil _, tab0_nil _, by rw [k2]; exact hv49, k3, trivial⟩, hB⟩
end Go.Proofs.YtmefpnklgfhggaaGreatDoor

/- Recon by types: does: one answer to what is wanted. -/
namespace Go.Proofs.YtmefpnklgfhggaaGreatDoor
open Go.RowKit

def Sd.doE (s : Sd) (Y : List Sm) : Int := if s.kind = 1 then s.stE s.seed (stL s.seed Y) else if s.kind = 2 then s.tbE s.seed (ofL s.seed s.n Y) (tellS Y) else s.lsE Y (tellS Y)
def Sd.doS (s : Sd) (Y : List Sm) : Sd := if s.kind = 1 then s.stS s.seed (stL s.seed Y) else if s.kind = 2 then s.tbS s.seed (ofL s.seed s.n Y) (tellS Y) else s.lsS Y (tellS Y)
/-- Something is wanted that can be answered. -/
def Sd.Wants (s : Sd) : Prop := s.kind = 1 ∨ (s.kind = 2 ∧ goodN s.n = true) ∨ s.kind = 3
theorem ans_of (s : Sd) (Y : List Sm) (hg : goodL Y = true) (hk : s.Wants) : ∃ sd1 A sd2 L X, Ty.ansK Y s.n s.seed (ansC Y s.kind s.n) = Ty.ans sd1 A sd2 L X 0 ∧ (s.kind = 1 → sd1 = s.seed ∧ A = stL s.seed Y) ∧ (s.kind = 2 → sd2 = s.seed ∧ L = ofL s.seed s.n Y) ∧ (s.kind = 3 → X = Y) := by
  unfold ansC
  rw [if_pos hg]
  rcases hk with h | ⟨h, h2⟩ | h
  · rw [if_pos h]
    exact ⟨_, _, _, _, _, rfl, fun _ => ⟨rfl, rfl⟩, fun h2 => by omega, fun h2 => by omega⟩
  · rw [if_neg (by omega), if_pos h, if_pos h2]
    exact ⟨_, _, _, _, _, rfl, fun h2 => by omega, fun _ => ⟨rfl, rfl⟩, fun h2 => by omega⟩
  · rw [if_neg (by omega), if_neg (by omega), if_pos h]
    exact ⟨_, _, _, _, _, rfl, fun h2 => by omega, fun h2 => by omega, fun _ => rfl⟩
theorem enAnswer : Enters Tryz.prog 19 := fun args w => by kernel_rfl
set_option maxRecDepth 100000 in
set_option maxHeartbeats 4000000 in
theorem does_acts {w : World} {g : Nat} {m t o : Value} {s : Sd} (h : SideM w g m t o s) (hT : TabOk w) (Y : List Sm) {y : Value} (hy : (Ty.sums 28 Y).p w y) (hg : goodL Y = true) (hk : s.Wants) (hM : s.mine.length ≤ 100000) (hY : Y.length ≤ 100000) (hsd : s.seed < 18446744073709551616) (hr : s.rounds ≤ 1000000) (hn0 : 0 ≤ s.n) (hn1 : s.n ≤ 1000000) : Calls Tryz.prog 33 #[.pointer (some ⟨g, 0, none⟩), y] w fun e w' => e = .returned (.int .i64 (s.doE Y)) ∧ (∃ t' o', SideM w' g m t' o' (s.doS Y)) ∧ Keeps [g] w w' := by
  let TY := Ty.sums 28 Y
  have heA : Enters Tryz.prog 11 := fun args w => by kernel_rfl
  have heS : Enters Tryz.prog 14 := fun args w => by kernel_rfl
  have heT : Enters Tryz.prog 12 := fun args w => by kernel_rfl
  have heL : Enters Tryz.prog 13 := fun args w => by kernel_rfl
  obtain ⟨sd1, A, sd2, L, X, hans, a1, a2, a3⟩ := ans_of s Y hg hk
  have hAn : ∀ w v u, (Ty.sums 28 Y).p w v → (Ty.ex (.agg #[.int .i64 s.kind, .int .i64 s.n, .int .u64 (s.seed : Int)])).p w u → TabOk w → Ret Tryz.prog 19 #[v, u] w (Ty.ans sd1 A sd2 L X 0) := fun w v u hv hu hT => by
    rw [← hans]
    exact answer_any Y s.kind s.n s.seed (by omega) hsd w v u hv hu hT
  have hTe := tell_ty Y (by omega)
  have eT : shaS (byL (setL Y)) = tellS Y := rfl
  rw [eT] at hTe
  refine enter_ty 42 [Ty.ex (.pointer (some ⟨g, 0, none⟩)), Ty.ex y] Tryz.func33 rfl (by kernel_rfl) ⟨rfl, rfl, trivial⟩ fun a hF => ?_
  have hB := Below.refl w.heap.size w
  have hy : TY.p w y := hy
  have hgl := h.blk.lt
  repeat with_reducible refine wp_seq ?_
  refine' reg_all hF ?_ mixed (by kernel_rfl) ?_
  rotate_left
  · repeat (first | exact Line.nil | ((refine' Line.cons rfl (.run rfl rfl ?_) ?_); (any_goals exact cAssign rfl rfl); rotate_left))
  intro a w1 hF hb hN
  have hBs := hB.size
  replace hB := hB.trans (hb.mono hB.size)
  dsimp only [ext, Option.getD] at hF
  repeat with_reducible first | refine wp_seq ?_ | refine nThen ?_
  have hS := h.below hB
  replace hy := TY.below hy hB
  have hw1 := hB.size
  refine' region_ty 3 mixed (by kernel_rfl) hF ?_ ?_
  rotate_left
  · simp only [List.take_succ_cons, List.take_zero]
    repeat (first
        | exact Line.nil
        | (refine' Line.cons rfl (.new rfl rfl (run_alloc_i infoAsk) rfl) ?_; rotate_left)
        | ((refine' Line.cons rfl (.run rfl rfl ?_) ?_)
           any_goals (first | exact cMove rfl rfl | exact cCallX1 rfl rfl heA (fun W hb => ask_ret (hS.below hb)))
           rotate_left))
  intro a w2 hF hb hN
  have hBs := hB.size
  replace hB := hB.trans (hb.mono hB.size)
  simp only [List.take_succ_cons, List.take_zero, List.drop_succ_cons, List.drop_zero] at hF hN ⊢
  dsimp only [ext, Option.getD] at hF
  replace hS := hS.below hb
  replace hy := TY.below hy hb
  obtain ⟨z, ⟨g5, rfl, hg5, hb5⟩, hF⟩ := hF.open (s := 5) rfl
  have hg5 : w1.heap.size ≤ g5 := hg5
  refine tlStoreV (Δ := [(0, Ty.ex (.pointer (some ⟨g, 0, none⟩))), (1, Ty.ex y), (5, Ty.ex (.pointer (some ⟨g5, 0, none⟩)))]) hF rfl rfl rfl rfl (hF.getEx (s := 11) rfl) hb5 rfl sizeAsk (by simp [Value.cells, Value.oneCell']) (hF.keep [0, 1, 5]) rfl ?_
  intro w3 hF hb5' hkx
  refine wpList_nil ?_
  replace hS := hS.far hkx hb5 (by omega) rfl
  replace hy := TY.far hy hkx hb5 rfl
  replace hB := below_own hB hkx (by intro y hy; simp only [List.mem_singleton] at hy; omega)
  replace hb5 : Blk w3 g5 AskT #[.int .i64 s.kind, .int .i64 s.n, .int .u64 (s.seed : Int)] := hb5'
  clear hb5' hkx h
  have hat5 : (Ty.at_ AskT [.int .i64 s.kind, .int .i64 s.n, .int .u64 (s.seed : Int)]).p w3 (.pointer (some ⟨g5, 0, none⟩)) := ⟨g5, 0, _, (0, 0), rfl, hb5, fun j u h => by simpa using h⟩
  repeat with_reducible first | refine wp_seq ?_ | refine nThen ?_
  refine wp_region_lit ?_
  refine' tlOp hF rfl rfl rfl ?_ ?_
  rotate_left
  · exact cMove rfl rfl
  intro a w4 hF hb
  have hBs := hB.size
  replace hB := hB.trans (hb.mono hB.size)
  try (refine wpList_nil ?_)
  replace hS := hS.below hb
  replace hy := TY.below hy hb
  replace hat5 := (Ty.at_ AskT _).below hat5 hb
  refine' tlOp hF rfl rfl rfl ?_ ?_
  rotate_left
  · exact cLdAsk rfl (.l rfl hat5)
  intro a w5 hF hb
  have hBs := hB.size
  replace hB := hB.trans (hb.mono hB.size)
  try (refine wpList_nil ?_)
  replace hS := hS.below hb
  replace hy := TY.below hy hb
  replace hat5 := (Ty.at_ AskT _).below hat5 hb
  refine' tlOp hF rfl rfl rfl ?_ ?_
  rotate_left
  · exact cCallT2 rfl (.l rfl hy) (.t rfl) (hT.below hB) enAnswer hAn
  intro a w6 hF hb
  have hBs := hB.size
  replace hB := hB.trans (hb.mono hB.size)
  try (refine wpList_nil ?_)
  replace hS := hS.below hb
  replace hy := TY.below hy hb
  replace hat5 := (Ty.at_ AskT _).below hat5 hb
  have hB0 := hB
  have hw6 := hB.size
  replace hB := Below.refl w6.heap.size w6
  refine' tlOp hF rfl rfl rfl ?_ ?_
  rotate_left
  · exact cMove rfl rfl
  intro a w7a hF hb
  have hBs := hB.size
  replace hB := hB.trans (hb.mono hB.size)
  try (refine wpList_nil ?_)
  refine' tlOp hF rfl rfl rfl ?_ ?_
  rotate_left
  · exact cExtract rfl rfl rfl
  intro a w7b hF hb
  have hBs := hB.size
  replace hB := hB.trans (hb.mono hB.size)
  try (refine wpList_nil ?_)
  refine' tlOp hF rfl rfl rfl ?_ ?_
  rotate_left
  · exact cExtract rfl rfl rfl
  intro a w7c hF hb
  have hBs := hB.size
  replace hB := hB.trans (hb.mono hB.size)
  try (refine wpList_nil ?_)
  refine' tlOp hF rfl rfl rfl ?_ ?_
  rotate_left
  · exact cExtract rfl rfl rfl
  intro a w7d hF hb
  have hBs := hB.size
  replace hB := hB.trans (hb.mono hB.size)
  try (refine wpList_nil ?_)
  refine' tlOp hF rfl rfl rfl ?_ ?_
  rotate_left
  · exact cExtract rfl rfl rfl
  intro a w7 hF hb
  have hBs := hB.size
  replace hB := hB.trans (hb.mono hB.size)
  try (refine wpList_nil ?_)
  obtain ⟨z, ⟨s1, rfl, hs1⟩, hF⟩ := hF.open (s := 16) rfl
  obtain ⟨z, ⟨s2, rfl, hs2⟩, hF⟩ := hF.open (s := 17) rfl
  have hs1 : (Ty.tabs 40 69 sd1 A).p w7 s1 := hs1
  have hs2 : (Ty.cls 69 L).p w7 s2 := hs2
  have hw7 := hB.size
  replace hS := hS.below hB
  replace hy := TY.below hy hB
  replace hat5 := (Ty.at_ AskT _).below hat5 hB
  replace hB0 := hB0.trans (hB.mono hw6)
  replace hB := Below.refl w7.heap.size w7
  refine' tlOp hF rfl rfl rfl ?_ ?_
  rotate_left
  · exact cAllocN rfl (run_alloc_i infoStA)
  intro a w8 hF hb
  have hBs := hB.size
  replace hB := hB.trans (hb.mono hB.size)
  try (refine wpList_nil ?_)
  obtain ⟨z, ⟨g6, rfl, hg6, hb6⟩, hF⟩ := hF.open (s := 6) rfl
  have hg6 : w7.heap.size ≤ g6 := hg6
  have hl6 := hb6.lt
  refine' tlOp hF rfl rfl rfl ?_ ?_
  rotate_left
  · exact cAllocN rfl (run_alloc_i infoT46)
  intro a w9 hF hb
  have hBs := hB.size
  replace hB := hB.trans (hb.mono hB.size)
  try (refine wpList_nil ?_)
  replace hb6 := hb6.below hb
  obtain ⟨z, ⟨g7, rfl, hg7, hb7⟩, hF⟩ := hF.open (s := 7) rfl
  have hg7 : w8.heap.size ≤ g7 := hg7
  have hw8 := hB.size
  have hne : g6 ≠ g7 := by omega
  have hg7w : w7.heap.size ≤ g7 := by omega
  refine tlStoreV (Δ := [(0, Ty.ex (.pointer (some ⟨g, 0, none⟩))), (1, Ty.ex y), (5, Ty.ex (.pointer (some ⟨g5, 0, none⟩))), (6, Ty.ex (.pointer (some ⟨g6, 0, none⟩))), (7, Ty.ex (.pointer (some ⟨g7, 0, none⟩))), (17, Ty.ex (.agg #[.int .u64 (sd2 : Int), s2])), (18, Ty.sums 28 X), (19, Ty.ex (.int .i64 0))]) hF rfl rfl rfl rfl (hF.getEx (s := 16) rfl) hb6 rfl sizeStA (tabs_one hs1 sd1) (hF.keep [0, 1, 5, 6, 7, 17, 18, 19]) rfl ?_
  intro w10 hF hb6' hkx
  replace hb7 := hb7.keeps hkx (by simpa using hne.symm)
  replace hB := below_own hB hkx (by intro y hy; simp only [List.mem_singleton] at hy; omega)
  clear hb6 hkx
  refine tlStoreV (Δ := [(0, Ty.ex (.pointer (some ⟨g, 0, none⟩))), (1, Ty.ex y), (5, Ty.ex (.pointer (some ⟨g5, 0, none⟩))), (6, Ty.ex (.pointer (some ⟨g6, 0, none⟩))), (7, Ty.ex (.pointer (some ⟨g7, 0, none⟩))), (18, Ty.sums 28 X), (19, Ty.ex (.int .i64 0))]) hF rfl rfl rfl rfl (hF.getEx (s := 17) rfl) hb7 rfl sizeT46 (sl_one hs2 sd2) (hF.keep [0, 1, 5, 6, 7, 18, 19]) rfl ?_
  intro w11 hF hb7' hkx
  replace hb6' := hb6'.keeps hkx (by simpa using hne)
  replace hB := below_own hB hkx (by intro y hy; simp only [List.mem_singleton] at hy; omega)
  clear hb7 hkx
  refine' tlOp hF rfl rfl rfl ?_ ?_
  rotate_left
  · exact cAssign rfl rfl
  intro a w12 hF hb
  have hBs := hB.size
  replace hB := hB.trans (hb.mono hB.size)
  try (refine wpList_nil ?_)
  replace hb6' := hb6'.below hb
  replace hb7' := hb7'.below hb
  refine' tlOp hF rfl rfl rfl ?_ ?_
  rotate_left
  · exact cAssign rfl rfl
  intro a w13 hF hb
  have hBs := hB.size
  replace hB := hB.trans (hb.mono hB.size)
  try (refine wpList_nil ?_)
  repeat with_reducible first | refine wp_seq ?_ | refine nThen ?_
  replace hb6' := hb6'.below hb
  replace hb7' := hb7'.below hb
  replace hS := hS.below hB
  replace hy := TY.below hy hB
  replace hat5 := (Ty.at_ AskT _).below hat5 hB
  replace hs1 := (Ty.tabs 40 69 sd1 A).below hs1 hB
  replace hs2 := (Ty.cls 69 L).below hs2 hB
  replace hB := hB0.trans (hB.mono hB0.size)
  have hat6 : (Ty.at_ StT [.int .u64 (sd1 : Int), s1]).p w13 (.pointer (some ⟨g6, 0, none⟩)) := ⟨g6, 0, _, (0, 0), rfl, hb6', fun j u h => by simpa [Value.cells] using h⟩
  have hat7 : (Ty.at_ 40 [.int .u64 (sd2 : Int), s2]).p w13 (.pointer (some ⟨g7, 0, none⟩)) := ⟨g7, 0, _, (0, 0), rfl, hb7', fun j u h => by simpa [Value.cells] using h⟩
  clear hB0 hb6' hb7' hb5 hans hAn
  refine' reg_all hF ?_ mixed (by kernel_rfl) ?_
  rotate_left
  · repeat (first | exact Line.nil | ((refine' Line.cons rfl (.run rfl rfl ?_) ?_); (any_goals (first | exact cMove rfl rfl | exact OpOk.b (c := false) (cNeq rfl rfl rfl) rfl)); rotate_left))
  intro a w14 hF hb hN
  have hBs := hB.size
  replace hB := hB.trans (hb.mono hB.size)
  dsimp only [ext, Option.getD] at hF
  repeat with_reducible refine nThen ?_
  refine cond_f hF rfl ?_
  repeat with_reducible first | refine wp_seq ?_ | refine nThen ?_ | refine wp_skip ?_
  replace hS := hS.below hb
  replace hy := TY.below hy hb
  replace hat5 := (Ty.at_ AskT _).below hat5 hb
  replace hat6 := (Ty.at_ StT _).below hat6 hb
  replace hat7 := (Ty.at_ 40 _).below hat7 hb
  replace hs1 := (Ty.tabs 40 69 sd1 A).below hs1 hb
  replace hs2 := (Ty.cls 69 L).below hs2 hb
  refine' reg_all hF ?_ mixed (by kernel_rfl) ?_
  rotate_left
  · repeat (first | exact Line.nil | ((refine' Line.cons rfl (.run rfl rfl ?_) ?_); (any_goals (first | exact cAk0 rfl rfl | exact cLdInt rfl (.l rfl hat5))); rotate_left))
  intro a w15 hF hb hN
  have hBs := hB.size
  replace hB := hB.trans (hb.mono hB.size)
  dsimp only [ext, Option.getD] at hF
  repeat with_reducible first | refine wp_seq ?_ | refine nThen ?_ | refine wp_block ?_
  replace hS := hS.below hb
  replace hy := TY.below hy hb
  replace hat6 := (Ty.at_ StT _).below hat6 hb
  replace hat7 := (Ty.at_ 40 _).below hat7 hb
  replace hs1 := (Ty.tabs 40 69 sd1 A).below hs1 hb
  replace hs2 := (Ty.cls 69 L).below hs2 hb
  by_cases k1 : s.kind = 1
  · obtain ⟨q1, q2⟩ := a1 k1
    have e1 : s.doE Y = s.stE s.seed (stL s.seed Y) := by unfold Sd.doE; rw [if_pos k1]
    have e2 : s.doS Y = s.stS s.seed (stL s.seed Y) := by unfold Sd.doS; rw [if_pos k1]
    rw [e1, e2, ← q2, ← q1]
    refine' reg_all hF ?_ mixed (by kernel_rfl) ?_
    rotate_left
    · repeat (first | exact Line.nil | ((refine' Line.cons rfl (.run rfl rfl ?_) ?_); (any_goals (first | exact cAssign rfl rfl | exact OpOk.b (c := true) (cEql rfl rfl rfl) (decide_eq_true k1))); rotate_left))
    intro a w16 hF hb hN
    have hBs := hB.size
    replace hB := hB.trans (hb.mono hB.size)
    dsimp only [ext, Option.getD] at hF
    repeat with_reducible refine nThen ?_
    replace hS := hS.below hb
    replace hat6 := (Ty.at_ StT _).below hat6 hb
    replace hs1 := (Ty.tabs 40 69 sd1 A).below hs1 hb
    refine cond_t hF rfl ?_
    repeat with_reducible refine wp_seq ?_
    refine' region_ty 2 mixed (by kernel_rfl) hF ?_ ?_
    rotate_left
    · simp only [List.take_succ_cons, List.take_zero]
      repeat (first | exact Line.nil | ((refine' Line.cons rfl (.run rfl rfl ?_) ?_); (any_goals (first | exact cMove rfl rfl | exact cLoadAll (cs := #[.int .u64 (sd1 : Int), s1]) rfl (.l rfl hat6) Tryz.underlying45 rfl sizeStA)); rotate_left))
    intro a w17 hF hb hN
    have hBs := hB.size
    replace hB := hB.trans (hb.mono hB.size)
    simp only [List.take_succ_cons, List.take_zero, List.drop_succ_cons, List.drop_zero] at hF hN ⊢
    dsimp only [ext, Option.getD] at hF
    replace hS := hS.below hb
    replace hs1 := (Ty.tabs 40 69 sd1 A).below hs1 hb
    have hlA : A.length ≤ 1000000 := by rw [q2, stL_len]; omega
    refine tlCall (R := fun u w' => u = .int .i64 (s.stE sd1 A) ∧ SideM w' g m t o (s.stS sd1 A) ∧ Keeps [g] w17 w') (args := #[.pointer (some ⟨g, 0, none⟩), .agg #[.int .u64 (sd1 : Int), s1]]) rfl rfl rfl ?_ heS ((strata_acts hS (hT.below hB) sd1 A ⟨s1, rfl, hs1⟩ (by omega) hlA hsd hr).mono fun e w' ⟨k1, k2, k3⟩ => ⟨_, k1, rfl, k2, k3⟩) ?_
    · simp only [List.map_toArray, List.map_cons, List.map_nil, hF.getEx (s := 27) rfl, hF.getEx (s := 28) rfl]
    rintro u w18 ⟨rfl, hS18, hk18⟩
    have hF := (fr_side (hF.keep []) hS hk18 rfl).put (d := 29) (by decide) (Below.refl _ _) (V := Ty.ex (.int .i64 (s.stE sd1 A))) rfl
    have hK := keeps_below hB hk18
    replace hB := Below.refl w18.heap.size w18
    refine' tlOp hF rfl rfl rfl ?_ ?_
    rotate_left
    · exact cAssign rfl rfl
    intro a w19 hF hb
    have hBs := hB.size
    replace hB := hB.trans (hb.mono hB.size)
    try (refine wpList_nil ?_)
    repeat with_reducible first | refine nThen ?_ | refine wp_ret ?_ | refine rThen ?_ | refine rBlk ?_
    refine ret1 hF rfl rfl fun z hz => ?_
    exact ⟨by rw [show z = _ from hz], ⟨_, _, hS18.below hB⟩, hK.trans (Keeps.of_below hB)⟩
  by_cases k2 : s.kind = 2
  · obtain ⟨q1, q2⟩ := a2 k2
    have e1 : s.doE Y = s.tbE s.seed (ofL s.seed s.n Y) (tellS Y) := by unfold Sd.doE; rw [if_neg k1, if_pos k2]
    have e2 : s.doS Y = s.tbS s.seed (ofL s.seed s.n Y) (tellS Y) := by unfold Sd.doS; rw [if_neg k1, if_pos k2]
    rw [e1, e2, ← q2, ← q1]
    refine' reg_all hF ?_ mixed (by kernel_rfl) ?_
    rotate_left
    · repeat (first | exact Line.nil | ((refine' Line.cons rfl (.run rfl rfl ?_) ?_); (any_goals (first | exact cAssign rfl rfl | exact OpOk.b (c := false) (cEql rfl rfl rfl) (decide_eq_false k1))); rotate_left))
    intro a w16 hF hb hN
    have hBs := hB.size
    replace hB := hB.trans (hb.mono hB.size)
    dsimp only [ext, Option.getD] at hF
    repeat with_reducible refine nThen ?_
    replace hS := hS.below hb
    replace hy := TY.below hy hb
    replace hat7 := (Ty.at_ 40 _).below hat7 hb
    replace hs2 := (Ty.cls 69 L).below hs2 hb
    refine cond_f hF rfl ?_
    repeat with_reducible refine wp_seq ?_
    refine' reg_all hF ?_ mixed (by kernel_rfl) ?_
    rotate_left
    · repeat (first | exact Line.nil | ((refine' Line.cons rfl (.run rfl rfl ?_) ?_); (any_goals (first | exact cAssign rfl rfl | exact OpOk.b (c := true) (cEql rfl rfl rfl) (decide_eq_true k2))); rotate_left))
    intro a w17 hF hb hN
    have hBs := hB.size
    replace hB := hB.trans (hb.mono hB.size)
    dsimp only [ext, Option.getD] at hF
    repeat with_reducible refine nThen ?_
    replace hS := hS.below hb
    replace hy := TY.below hy hb
    replace hat7 := (Ty.at_ 40 _).below hat7 hb
    replace hs2 := (Ty.cls 69 L).below hs2 hb
    refine cond_t hF rfl ?_
    repeat with_reducible refine wp_seq ?_
    refine' region_ty 4 mixed (by kernel_rfl) hF ?_ ?_
    rotate_left
    · simp only [List.take_succ_cons, List.take_zero]
      repeat (first | exact Line.nil | ((refine' Line.cons rfl (.run rfl rfl ?_) ?_); (any_goals (first | exact cMove rfl rfl | exact cLoadT46 rfl (.l rfl hat7) | exact cCallH1 rfl (.l rfl hy) hTe)); rotate_left))
    intro a w18 hF hb hN
    have hBs := hB.size
    replace hB := hB.trans (hb.mono hB.size)
    simp only [List.take_succ_cons, List.take_zero, List.drop_succ_cons, List.drop_zero] at hF hN ⊢
    dsimp only [ext, Option.getD] at hF
    replace hS := hS.below hb
    replace hs2 := (Ty.cls 69 L).below hs2 hb
    refine tlCall (R := fun u w' => u = .int .i64 (s.tbE sd2 L (tellS Y)) ∧ (∃ t' o', SideM w' g m t' o' (s.tbS sd2 L (tellS Y))) ∧ Keeps [g] w18 w') (args := #[.pointer (some ⟨g, 0, none⟩), .agg #[.int .u64 (sd2 : Int), s2], .agg (u8s (tellS Y).l)]) rfl rfl rfl ?_ heT ((table_acts hS sd2 L (tellS Y) ⟨s2, rfl, hs2⟩ rfl hM (by omega) hr hn0 hn1).mono fun e w' ⟨k1, k2, k3⟩ => ⟨_, k1, rfl, k2, k3⟩) ?_
    · simp only [List.map_toArray, List.map_cons, List.map_nil, hF.getEx (s := 32) rfl, hF.getEx (s := 33) rfl, hF.getEx (s := 35) rfl]
    rintro u w19 ⟨rfl, ⟨t', o', hS19⟩, hk19⟩
    have hF := (fr_side (hF.keep []) hS hk19 rfl).put (d := 36) (by decide) (Below.refl _ _) (V := Ty.ex (.int .i64 (s.tbE sd2 L (tellS Y)))) rfl
    have hK := keeps_below hB hk19
    replace hB := Below.refl w19.heap.size w19
    refine' tlOp hF rfl rfl rfl ?_ ?_
    rotate_left
    · exact cAssign rfl rfl
    intro a w20 hF hb
    have hBs := hB.size
    replace hB := hB.trans (hb.mono hB.size)
    try (refine wpList_nil ?_)
    repeat with_reducible first | refine nThen ?_ | refine wp_ret ?_ | refine rThen ?_ | refine rBlk ?_
    refine ret1 hF rfl rfl fun z hz => ?_
    exact ⟨by rw [show z = _ from hz], ⟨_, _, hS19.below hB⟩, hK.trans (Keeps.of_below hB)⟩
  have k3 : s.kind = 3 := by rcases hk with h | ⟨h, _⟩ | h <;> first | exact absurd h k1 | exact absurd h k2 | exact h
  have q2 := a3 k3
  have e1 : s.doE Y = s.lsE Y (tellS Y) := by unfold Sd.doE; rw [if_neg k1, if_neg k2]
  have e2 : s.doS Y = s.lsS Y (tellS Y) := by unfold Sd.doS; rw [if_neg k1, if_neg k2]
  rw [e1, e2]
  rw [q2] at hF
  refine' reg_all hF ?_ mixed (by kernel_rfl) ?_
  rotate_left
  · repeat (first | exact Line.nil | ((refine' Line.cons rfl (.run rfl rfl ?_) ?_); (any_goals (first | exact cAssign rfl rfl | exact OpOk.b (c := false) (cEql rfl rfl rfl) (decide_eq_false k1))); rotate_left))
  intro a w16 hF hb hN
  have hBs := hB.size
  replace hB := hB.trans (hb.mono hB.size)
  dsimp only [ext, Option.getD] at hF
  repeat with_reducible refine nThen ?_
  replace hS := hS.below hb
  replace hy := TY.below hy hb
  refine cond_f hF rfl ?_
  repeat with_reducible refine wp_seq ?_
  refine' reg_all hF ?_ mixed (by kernel_rfl) ?_
  rotate_left
  · repeat (first | exact Line.nil | ((refine' Line.cons rfl (.run rfl rfl ?_) ?_); (any_goals (first | exact cAssign rfl rfl | exact OpOk.b (c := false) (cEql rfl rfl rfl) (decide_eq_false k2))); rotate_left))
  intro a w17 hF hb hN
  have hBs := hB.size
  replace hB := hB.trans (hb.mono hB.size)
  dsimp only [ext, Option.getD] at hF
  repeat with_reducible refine nThen ?_
  replace hS := hS.below hb
  replace hy := TY.below hy hb
  refine cond_f hF rfl ?_
  repeat with_reducible first | refine wp_seq ?_ | refine nThen ?_ | refine nBlk ?_ | refine wp_skip ?_
  refine' region_ty 4 mixed (by kernel_rfl) hF ?_ ?_
  rotate_left
  · simp only [List.take_succ_cons, List.take_zero]
    repeat (first | exact Line.nil | ((refine' Line.cons rfl (.run rfl rfl ?_) ?_); (any_goals (first | exact cMove rfl rfl | exact cCallH1 rfl (.l rfl hy) hTe)); rotate_left))
  intro a w18 hF hb hN
  have hBs := hB.size
  replace hB := hB.trans (hb.mono hB.size)
  simp only [List.take_succ_cons, List.take_zero, List.drop_succ_cons, List.drop_zero] at hF hN ⊢
  dsimp only [ext, Option.getD] at hF
  replace hS := hS.below hb
  obtain ⟨v38, hv38, hF⟩ := hF.open (s := 38) rfl
  have hv38 : TY.p w18 v38 := hv38
  refine tlCall (R := fun u w' => u = .int .i64 (s.lsE Y (tellS Y)) ∧ (∃ t' o', SideM w' g m t' o' (s.lsS Y (tellS Y))) ∧ Keeps [g] w18 w') (args := #[.pointer (some ⟨g, 0, none⟩), v38, .agg (u8s (tellS Y).l)]) rfl rfl rfl ?_ heL ((list_acts hS Y (tellS Y) hv38 rfl hM hY hr).mono fun e w' ⟨k1, k2, k3⟩ => ⟨_, k1, rfl, k2, k3⟩) ?_
  · simp only [List.map_toArray, List.map_cons, List.map_nil, hF.getEx (s := 37) rfl, hF.getEx (s := 38) rfl, hF.getEx (s := 40) rfl]
  rintro u w19 ⟨rfl, ⟨t', o', hS19⟩, hk19⟩
  have hF := (fr_side (hF.keep []) hS hk19 rfl).put (d := 41) (by decide) (Below.refl _ _) (V := Ty.ex (.int .i64 (s.lsE Y (tellS Y)))) rfl
  have hK := keeps_below hB hk19
  replace hB := Below.refl w19.heap.size w19
  refine' tlOp hF rfl rfl rfl ?_ ?_
  rotate_left
  · exact cAssign rfl rfl
  intro a w20 hF hb
  have hBs := hB.size
  replace hB := hB.trans (hb.mono hB.size)
  try (refine wpList_nil ?_)
  repeat with_reducible first | refine nThen ?_ | refine wp_ret ?_
  refine ret1 hF rfl rfl fun z hz => ?_
  exact ⟨by rw [show z = _ from hz], ⟨_, _, hS19.below hB⟩, hK.trans (Keeps.of_below hB)⟩
end Go.Proofs.YtmefpnklgfhggaaGreatDoor
