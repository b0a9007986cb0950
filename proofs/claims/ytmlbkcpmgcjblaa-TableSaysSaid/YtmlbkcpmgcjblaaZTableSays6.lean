/- Joined: TabU, Row, Row2, RowS. -/
import Derived.ProofKit
import Derived.OpenShut
import Derived.ShutString
import Derived.ChangeOld
import Derived.SizedLaws
import Derived.ChangeSlices
import Derived.Carry
import Derived.Deep.Slices
import Derived.Test.YtmlbkcpmgcjblaaZTableSays5
/- Layer 15 by types: TableSays. -/
namespace Go.Proofs.Ytmlbkcpmgcjblaa
open Go.RowKit

set_option maxRecDepth 100000 in
set_option maxHeartbeats 4000000 in
theorem lawTableSays_any (seed : Nat) (n : Int) (LA LB : List Sm) (x : Sm) {W : World} {v2 v3 : Value} (hsd : seed < 18446744073709551616) (h2 : (Ty.sumsR LA).p W v2) (h3 : (Ty.sumsR LB).p W v3) : Calls Try.prog 7 #[.int .u64 (seed : Int), .int .i64 n, v2, v3, .agg (u8s x.l)] W fun e w' => e = .returned (.bool true) ∧ Below W.heap.size W w' := by
  refine enter_ty 156 [Ty.ex (.int .u64 (seed : Int)), Ty.ex (.int .i64 n), Ty.sumsR LA, Ty.sumsR LB, Ty.ex (.agg (u8s x.l))] Try.func7 rfl (by kernel_rfl) ⟨rfl, rfl, h2, h3, rfl, trivial⟩ fun a hF => ?_
  have hB := Below.refl W.heap.size W
  repeat (first | with_reducible refine wp_seq ?_ | with_reducible refine nThen ?_ | with_reducible refine nBlk ?_ | with_reducible refine wp_skip ?_ | with_reducible refine wp_block ?_ | with_reducible refine wp_exit ?_ | with_reducible refine xThen ?_ | with_reducible refine xHere ?_ | with_reducible refine xFar (by decide) ?_ | with_reducible refine wp_ret ?_ | with_reducible refine rThen ?_ | with_reducible refine rBlk ?_)
  refine' reg_all hF ?_ mixed (by kernel_rfl) ?_
  rotate_left
  · repeat (first
        | exact Line.nil
        | (refine' Line.cons rfl (.no rfl rfl rfl rfl rfl rfl) ?_; rotate_left)
        | ((first | refine' Line.cons rfl (.run rfl rfl ?_) ?_ | refine' Line.cons rfl (.yes rfl rfl rfl rfl ?_) ?_)
           any_goals (first | exact cMove rfl rfl | exact cAssign rfl rfl | exact cNot rfl rfl | exact cBoxSum rfl rfl | exact cPickT rfl rfl rfl | exact cPickF rfl rfl rfl | exact cLss rfl rfl rfl | exact cLeq rfl rfl rfl | exact cGtr rfl rfl rfl | exact cGeq rfl rfl rfl | exact cEql rfl rfl rfl | exact cNeq rfl rfl rfl | exact cExtract rfl rfl rfl)
           rotate_left))
  intro a w1 hF hb hN
  have hBs := hB.size
  replace hB := hB.trans (hb.mono hB.size)
  dsimp only [ext, Option.getD] at hF
  repeat (first | with_reducible refine wp_seq ?_ | with_reducible refine nThen ?_ | with_reducible refine nBlk ?_ | with_reducible refine wp_skip ?_ | with_reducible refine wp_block ?_ | with_reducible refine wp_exit ?_ | with_reducible refine xThen ?_ | with_reducible refine xHere ?_ | with_reducible refine xFar (by decide) ?_ | with_reducible refine wp_ret ?_ | with_reducible refine rThen ?_ | with_reducible refine rBlk ?_)
  refine' reg_all hF ?_ mixed (by kernel_rfl) ?_
  rotate_left
  · repeat (first
        | exact Line.nil
        | (refine' Line.cons rfl (.no rfl rfl rfl rfl rfl rfl) ?_; rotate_left)
        | ((first | refine' Line.cons rfl (.run rfl rfl ?_) ?_ | refine' Line.cons rfl (.yes rfl rfl rfl rfl ?_) ?_)
           any_goals (first | exact cMove rfl rfl | exact cAssign rfl rfl | exact cNot rfl rfl | exact cCall0 rfl awake15_ty | exact cPickT rfl rfl rfl | exact cPickF rfl rfl rfl | exact cLss rfl rfl rfl | exact cLeq rfl rfl rfl | exact cGtr rfl rfl rfl | exact cGeq rfl rfl rfl | exact cEql rfl rfl rfl | exact cNeq rfl rfl rfl | exact cExtract rfl rfl rfl)
           rotate_left))
  intro a w2 hF hb hN
  have hBs := hB.size
  replace hB := hB.trans (hb.mono hB.size)
  dsimp only [ext, Option.getD] at hF
  repeat (first | with_reducible refine wp_seq ?_ | with_reducible refine nThen ?_ | with_reducible refine nBlk ?_ | with_reducible refine wp_skip ?_ | with_reducible refine wp_block ?_ | with_reducible refine wp_exit ?_ | with_reducible refine xThen ?_ | with_reducible refine xHere ?_ | with_reducible refine xFar (by decide) ?_ | with_reducible refine wp_ret ?_ | with_reducible refine rThen ?_ | with_reducible refine rBlk ?_)
  refine cond_f hF rfl ?_
  repeat (first | with_reducible refine wp_seq ?_ | with_reducible refine nThen ?_ | with_reducible refine nBlk ?_ | with_reducible refine wp_skip ?_ | with_reducible refine wp_block ?_ | with_reducible refine wp_exit ?_ | with_reducible refine xThen ?_ | with_reducible refine xHere ?_ | with_reducible refine xFar (by decide) ?_ | with_reducible refine wp_ret ?_ | with_reducible refine rThen ?_ | with_reducible refine rBlk ?_)
  by_cases c1 : (40 : Int) < LA.length
  · refine' reg_all hF ?_ mixed (by kernel_rfl) ?_
    rotate_left
    · repeat (first
          | exact Line.nil
          | (refine' Line.cons rfl (.no rfl rfl rfl rfl rfl rfl) ?_; rotate_left)
          | ((first | refine' Line.cons rfl (.run rfl rfl ?_) ?_ | refine' Line.cons rfl (.yes rfl rfl rfl rfl ?_) ?_)
             any_goals (first | exact cMove rfl rfl | exact cAssign rfl rfl | exact cNot rfl rfl | exact cLenH rfl (.t rfl) (Ty.rd_isSl _ _) Try.underlying22 | exact OpOk.b (c := true) (cGtr rfl rfl rfl) (decide_eq_true (by omega)) | exact OpOk.b (c := false) (cGtr rfl rfl rfl) (decide_eq_false (by omega)) | exact cPickT rfl rfl rfl | exact cPickF rfl rfl rfl | exact cLss rfl rfl rfl | exact cLeq rfl rfl rfl | exact cGtr rfl rfl rfl | exact cGeq rfl rfl rfl | exact cEql rfl rfl rfl | exact cNeq rfl rfl rfl | exact cExtract rfl rfl rfl)
             rotate_left))
    intro a w3 hF hb hN
    have hBs := hB.size
    replace hB := hB.trans (hb.mono hB.size)
    dsimp only [ext, Option.getD] at hF
    repeat (first | with_reducible refine wp_seq ?_ | with_reducible refine nThen ?_ | with_reducible refine nBlk ?_ | with_reducible refine wp_skip ?_ | with_reducible refine wp_block ?_ | with_reducible refine wp_exit ?_ | with_reducible refine xThen ?_ | with_reducible refine xHere ?_ | with_reducible refine xFar (by decide) ?_ | with_reducible refine wp_ret ?_ | with_reducible refine rThen ?_ | with_reducible refine rBlk ?_)
    refine cond_t hF rfl ?_
    repeat (first | with_reducible refine wp_seq ?_ | with_reducible refine nThen ?_ | with_reducible refine nBlk ?_ | with_reducible refine wp_skip ?_ | with_reducible refine wp_block ?_ | with_reducible refine wp_exit ?_ | with_reducible refine xThen ?_ | with_reducible refine xHere ?_ | with_reducible refine xFar (by decide) ?_ | with_reducible refine wp_ret ?_ | with_reducible refine rThen ?_ | with_reducible refine rBlk ?_)
    refine' reg_all hF ?_ mixed (by kernel_rfl) ?_
    rotate_left
    · repeat (first
          | exact Line.nil
          | (refine' Line.cons rfl (.no rfl rfl rfl rfl rfl rfl) ?_; rotate_left)
          | ((first | refine' Line.cons rfl (.run rfl rfl ?_) ?_ | refine' Line.cons rfl (.yes rfl rfl rfl rfl ?_) ?_)
             any_goals (first | exact cMove rfl rfl | exact cAssign rfl rfl | exact cNot rfl rfl | exact cPickT rfl rfl rfl | exact cPickF rfl rfl rfl | exact cLss rfl rfl rfl | exact cLeq rfl rfl rfl | exact cGtr rfl rfl rfl | exact cGeq rfl rfl rfl | exact cEql rfl rfl rfl | exact cNeq rfl rfl rfl | exact cExtract rfl rfl rfl)
             rotate_left))
    intro a w4 hF hb hN
    have hBs := hB.size
    replace hB := hB.trans (hb.mono hB.size)
    dsimp only [ext, Option.getD] at hF
    repeat (first | with_reducible refine wp_seq ?_ | with_reducible refine nThen ?_ | with_reducible refine nBlk ?_ | with_reducible refine wp_skip ?_ | with_reducible refine wp_block ?_ | with_reducible refine wp_exit ?_ | with_reducible refine xThen ?_ | with_reducible refine xHere ?_ | with_reducible refine xFar (by decide) ?_ | with_reducible refine wp_ret ?_ | with_reducible refine rThen ?_ | with_reducible refine rBlk ?_)
    refine ret1 hF rfl rfl fun z hz => ?_
    exact ⟨by rw [show z = .bool true from hz], hB⟩
  by_cases c2 : (40 : Int) < LB.length
  · refine' reg_all hF ?_ mixed (by kernel_rfl) ?_
    rotate_left
    · repeat (first
          | exact Line.nil
          | (refine' Line.cons rfl (.no rfl rfl rfl rfl rfl rfl) ?_; rotate_left)
          | ((first | refine' Line.cons rfl (.run rfl rfl ?_) ?_ | refine' Line.cons rfl (.yes rfl rfl rfl rfl ?_) ?_)
             any_goals (first | exact cMove rfl rfl | exact cAssign rfl rfl | exact cNot rfl rfl | exact cLenH rfl (.t rfl) (Ty.rd_isSl _ _) Try.underlying22 | exact OpOk.b (c := true) (cGtr rfl rfl rfl) (decide_eq_true (by omega)) | exact OpOk.b (c := false) (cGtr rfl rfl rfl) (decide_eq_false (by omega)) | exact cPickT rfl rfl rfl | exact cPickF rfl rfl rfl | exact cLss rfl rfl rfl | exact cLeq rfl rfl rfl | exact cGtr rfl rfl rfl | exact cGeq rfl rfl rfl | exact cEql rfl rfl rfl | exact cNeq rfl rfl rfl | exact cExtract rfl rfl rfl)
             rotate_left))
    intro a w3 hF hb hN
    have hBs := hB.size
    replace hB := hB.trans (hb.mono hB.size)
    dsimp only [ext, Option.getD] at hF
    repeat (first | with_reducible refine wp_seq ?_ | with_reducible refine nThen ?_ | with_reducible refine nBlk ?_ | with_reducible refine wp_skip ?_ | with_reducible refine wp_block ?_ | with_reducible refine wp_exit ?_ | with_reducible refine xThen ?_ | with_reducible refine xHere ?_ | with_reducible refine xFar (by decide) ?_ | with_reducible refine wp_ret ?_ | with_reducible refine rThen ?_ | with_reducible refine rBlk ?_)
    refine cond_t hF rfl ?_
    repeat (first | with_reducible refine wp_seq ?_ | with_reducible refine nThen ?_ | with_reducible refine nBlk ?_ | with_reducible refine wp_skip ?_ | with_reducible refine wp_block ?_ | with_reducible refine wp_exit ?_ | with_reducible refine xThen ?_ | with_reducible refine xHere ?_ | with_reducible refine xFar (by decide) ?_ | with_reducible refine wp_ret ?_ | with_reducible refine rThen ?_ | with_reducible refine rBlk ?_)
    refine' reg_all hF ?_ mixed (by kernel_rfl) ?_
    rotate_left
    · repeat (first
          | exact Line.nil
          | (refine' Line.cons rfl (.no rfl rfl rfl rfl rfl rfl) ?_; rotate_left)
          | ((first | refine' Line.cons rfl (.run rfl rfl ?_) ?_ | refine' Line.cons rfl (.yes rfl rfl rfl rfl ?_) ?_)
             any_goals (first | exact cMove rfl rfl | exact cAssign rfl rfl | exact cNot rfl rfl | exact cPickT rfl rfl rfl | exact cPickF rfl rfl rfl | exact cLss rfl rfl rfl | exact cLeq rfl rfl rfl | exact cGtr rfl rfl rfl | exact cGeq rfl rfl rfl | exact cEql rfl rfl rfl | exact cNeq rfl rfl rfl | exact cExtract rfl rfl rfl)
             rotate_left))
    intro a w4 hF hb hN
    have hBs := hB.size
    replace hB := hB.trans (hb.mono hB.size)
    dsimp only [ext, Option.getD] at hF
    repeat (first | with_reducible refine wp_seq ?_ | with_reducible refine nThen ?_ | with_reducible refine nBlk ?_ | with_reducible refine wp_skip ?_ | with_reducible refine wp_block ?_ | with_reducible refine wp_exit ?_ | with_reducible refine xThen ?_ | with_reducible refine xHere ?_ | with_reducible refine xFar (by decide) ?_ | with_reducible refine wp_ret ?_ | with_reducible refine rThen ?_ | with_reducible refine rBlk ?_)
    refine ret1 hF rfl rfl fun z hz => ?_
    exact ⟨by rw [show z = .bool true from hz], hB⟩
  by_cases c3 : 300 < n
  · refine' reg_all hF ?_ mixed (by kernel_rfl) ?_
    rotate_left
    · repeat (first
          | exact Line.nil
          | (refine' Line.cons rfl (.no rfl rfl rfl rfl rfl rfl) ?_; rotate_left)
          | ((first | refine' Line.cons rfl (.run rfl rfl ?_) ?_ | refine' Line.cons rfl (.yes rfl rfl rfl rfl ?_) ?_)
             any_goals (first | exact cMove rfl rfl | exact cAssign rfl rfl | exact cNot rfl rfl | exact cLenH rfl (.t rfl) (Ty.rd_isSl _ _) Try.underlying22 | exact OpOk.b (c := true) (cGtr rfl rfl rfl) (decide_eq_true (by omega)) | exact OpOk.b (c := false) (cGtr rfl rfl rfl) (decide_eq_false (by omega)) | exact cPickT rfl rfl rfl | exact cPickF rfl rfl rfl | exact cLss rfl rfl rfl | exact cLeq rfl rfl rfl | exact cGtr rfl rfl rfl | exact cGeq rfl rfl rfl | exact cEql rfl rfl rfl | exact cNeq rfl rfl rfl | exact cExtract rfl rfl rfl)
             rotate_left))
    intro a w3 hF hb hN
    have hBs := hB.size
    replace hB := hB.trans (hb.mono hB.size)
    dsimp only [ext, Option.getD] at hF
    repeat (first | with_reducible refine wp_seq ?_ | with_reducible refine nThen ?_ | with_reducible refine nBlk ?_ | with_reducible refine wp_skip ?_ | with_reducible refine wp_block ?_ | with_reducible refine wp_exit ?_ | with_reducible refine xThen ?_ | with_reducible refine xHere ?_ | with_reducible refine xFar (by decide) ?_ | with_reducible refine wp_ret ?_ | with_reducible refine rThen ?_ | with_reducible refine rBlk ?_)
    refine cond_t hF rfl ?_
    repeat (first | with_reducible refine wp_seq ?_ | with_reducible refine nThen ?_ | with_reducible refine nBlk ?_ | with_reducible refine wp_skip ?_ | with_reducible refine wp_block ?_ | with_reducible refine wp_exit ?_ | with_reducible refine xThen ?_ | with_reducible refine xHere ?_ | with_reducible refine xFar (by decide) ?_ | with_reducible refine wp_ret ?_ | with_reducible refine rThen ?_ | with_reducible refine rBlk ?_)
    refine' reg_all hF ?_ mixed (by kernel_rfl) ?_
    rotate_left
    · repeat (first
          | exact Line.nil
          | (refine' Line.cons rfl (.no rfl rfl rfl rfl rfl rfl) ?_; rotate_left)
          | ((first | refine' Line.cons rfl (.run rfl rfl ?_) ?_ | refine' Line.cons rfl (.yes rfl rfl rfl rfl ?_) ?_)
             any_goals (first | exact cMove rfl rfl | exact cAssign rfl rfl | exact cNot rfl rfl | exact cPickT rfl rfl rfl | exact cPickF rfl rfl rfl | exact cLss rfl rfl rfl | exact cLeq rfl rfl rfl | exact cGtr rfl rfl rfl | exact cGeq rfl rfl rfl | exact cEql rfl rfl rfl | exact cNeq rfl rfl rfl | exact cExtract rfl rfl rfl)
             rotate_left))
    intro a w4 hF hb hN
    have hBs := hB.size
    replace hB := hB.trans (hb.mono hB.size)
    dsimp only [ext, Option.getD] at hF
    repeat (first | with_reducible refine wp_seq ?_ | with_reducible refine nThen ?_ | with_reducible refine nBlk ?_ | with_reducible refine wp_skip ?_ | with_reducible refine wp_block ?_ | with_reducible refine wp_exit ?_ | with_reducible refine xThen ?_ | with_reducible refine xHere ?_ | with_reducible refine xFar (by decide) ?_ | with_reducible refine wp_ret ?_ | with_reducible refine rThen ?_ | with_reducible refine rBlk ?_)
    refine ret1 hF rfl rfl fun z hz => ?_
    exact ⟨by rw [show z = .bool true from hz], hB⟩
  have rA := row15_seg LA (by omega)
  have rB := row15_seg LB (by omega)
  have oA := own15_seg LA (by omega)
  have oB := own15_seg LB (by omega)
  have p1 := tof_ty seed n LA (by omega) hsd
  have q1 := rtof_ty seed n LA (by omega) hsd
  have p2 := tof_ty seed n LB (by omega) hsd
  have q2 := rtof_ty seed n LB (by omega) hsd
  refine' reg_all hF ?_ mixed (by kernel_rfl) ?_
  rotate_left
  · repeat (first
        | exact Line.nil
        | (refine' Line.cons rfl (.no rfl rfl rfl rfl rfl rfl) ?_; rotate_left)
        | ((first | refine' Line.cons rfl (.run rfl rfl ?_) ?_ | refine' Line.cons rfl (.yes rfl rfl rfl rfl ?_) ?_)
           any_goals (first | exact cMove rfl rfl | exact cAssign rfl rfl | exact cNot rfl rfl | exact cLenH rfl (.t rfl) (Ty.rd_isSl _ _) Try.underlying22 | exact OpOk.b (c := true) (cGtr rfl rfl rfl) (decide_eq_true (by omega)) | exact OpOk.b (c := false) (cGtr rfl rfl rfl) (decide_eq_false (by omega)) | exact cPickT rfl rfl rfl | exact cPickF rfl rfl rfl | exact cLss rfl rfl rfl | exact cLeq rfl rfl rfl | exact cGtr rfl rfl rfl | exact cGeq rfl rfl rfl | exact cEql rfl rfl rfl | exact cNeq rfl rfl rfl | exact cExtract rfl rfl rfl)
           rotate_left))
  intro a w3 hF hb hN
  have hBs := hB.size
  replace hB := hB.trans (hb.mono hB.size)
  dsimp only [ext, Option.getD] at hF
  repeat (first | with_reducible refine wp_seq ?_ | with_reducible refine nThen ?_ | with_reducible refine nBlk ?_ | with_reducible refine wp_skip ?_ | with_reducible refine wp_block ?_ | with_reducible refine wp_exit ?_ | with_reducible refine xThen ?_ | with_reducible refine xHere ?_ | with_reducible refine xFar (by decide) ?_ | with_reducible refine wp_ret ?_ | with_reducible refine rThen ?_ | with_reducible refine rBlk ?_)
  refine cond_f hF rfl ?_
  repeat (first | with_reducible refine wp_seq ?_ | with_reducible refine nThen ?_ | with_reducible refine nBlk ?_ | with_reducible refine wp_skip ?_ | with_reducible refine wp_block ?_ | with_reducible refine wp_exit ?_ | with_reducible refine xThen ?_ | with_reducible refine xHere ?_ | with_reducible refine xFar (by decide) ?_ | with_reducible refine wp_ret ?_ | with_reducible refine rThen ?_ | with_reducible refine rBlk ?_)
  by_cases hg : goodN n = true
  rotate_left
  · have hg : goodN n = false := by simpa using hg
    rw [newE_bad hg, show newS seed n = 0 by unfold newS; rw [hg]; rfl, show ofL seed n LA = [] by unfold ofL; rw [hg]; rfl] at p1 q1
    rw [newE_bad hg, show newS seed n = 0 by unfold newS; rw [hg]; rfl, show ofL seed n LB = [] by unfold ofL; rw [hg]; rfl] at p2 q2
    have m1 := tminus_ty 0 0 [] []
    have m2 := r13minus_ty 0 0 [] []
    have k1 : minOk 0 0 [] [] = false := by unfold minOk; rfl
    rw [show minL 0 0 [] [] = [] by unfold minL; rw [k1]; rfl, show minS 0 0 [] [] = 0 by unfold minS; rw [k1]; rfl, show minE 0 0 [] [] = .int .i64 1 by unfold minE; rw [k1]; rfl] at m1 m2
    have tO := tableOf15_ty 0 [] (by simp)
    have tS := sameT15_ty 0 0 [] [] (by simp)
    rw [decide_eq_true rfl, decide_eq_true rfl] at tS
    refine wp_region_lit ?_
    refine' tlOp hF rfl rfl rfl ?_ ?_
    rotate_left
    · first | exact cMove rfl rfl | exact cCallS1 rfl (.t rfl) rA | exact cCallR3 rfl (.t rfl) (.t rfl) (Has.c (.t rfl) seg_sl) p1 (tabE_olds _ _ _ _)
    intro a w4_0 hF hb
    replace hB := hB.trans (hb.mono hB.size)
    refine' tlOp hF rfl rfl rfl ?_ ?_
    rotate_left
    · first | exact cMove rfl rfl | exact cCallS1 rfl (.t rfl) rA | exact cCallR3 rfl (.t rfl) (.t rfl) (Has.c (.t rfl) seg_sl) p1 (tabE_olds _ _ _ _)
    intro a w4_1 hF hb
    replace hB := hB.trans (hb.mono hB.size)
    refine' tlOp hF rfl rfl rfl ?_ ?_
    rotate_left
    · first | exact cMove rfl rfl | exact cCallS1 rfl (.t rfl) rA | exact cCallR3 rfl (.t rfl) (.t rfl) (Has.c (.t rfl) seg_sl) p1 (tabE_olds _ _ _ _)
    intro a w4_2 hF hb
    replace hB := hB.trans (hb.mono hB.size)
    refine' tlOp hF rfl rfl rfl ?_ ?_
    rotate_left
    · first | exact cMove rfl rfl | exact cCallS1 rfl (.t rfl) rA | exact cCallR3 rfl (.t rfl) (.t rfl) (Has.c (.t rfl) seg_sl) p1 (tabE_olds _ _ _ _)
    intro a w4_3 hF hb
    replace hB := hB.trans (hb.mono hB.size)
    refine' tlOp hF rfl rfl rfl ?_ ?_
    rotate_left
    · first | exact cMove rfl rfl | exact cCallS1 rfl (.t rfl) rA | exact cCallR3 rfl (.t rfl) (.t rfl) (Has.c (.t rfl) seg_sl) p1 (tabE_olds _ _ _ _)
    intro a w4_4 hF hb
    replace hB := hB.trans (hb.mono hB.size)
    refine' tlOp hF rfl rfl rfl ?_ ?_
    rotate_left
    · first | exact cMove rfl rfl | exact cCallS1 rfl (.t rfl) rA | exact cCallR3 rfl (.t rfl) (.t rfl) (Has.c (.t rfl) seg_sl) p1 (tabE_olds _ _ _ _)
    intro a w4_5 hF hb
    replace hB := hB.trans (hb.mono hB.size)
    refine' tlOp hF rfl rfl rfl ?_ ?_
    rotate_left
    · exact cExtT rfl rfl
    intro a w4_t hF hb
    replace hB := hB.trans (hb.mono hB.size)
    refine' tlOp hF rfl rfl rfl ?_ ?_
    rotate_left
    · exact cExtE rfl rfl
    intro a w4_e hF hb
    replace hB := hB.trans (hb.mono hB.size)
    refine tlNewTab hF rfl rfl rfl (by decide) rfl (run_alloc_i infoT46) rfl rfl rfl rfl tabO_tab sizeT46 fun a w4_n hF hb => ?_
    replace hB := hB.trans (hb.mono hB.size)
    refine' tlOp hF rfl rfl rfl ?_ ?_
    rotate_left
    · exact cAssign rfl rfl
    intro a w4 hF hb
    replace hB := hB.trans (hb.mono hB.size)
    try (refine wpList_nil ?_)
    repeat (first | with_reducible refine wp_seq ?_ | with_reducible refine nThen ?_ | with_reducible refine nBlk ?_ | with_reducible refine wp_skip ?_ | with_reducible refine wp_block ?_ | with_reducible refine wp_exit ?_ | with_reducible refine xThen ?_ | with_reducible refine xHere ?_ | with_reducible refine xFar (by decide) ?_ | with_reducible refine wp_ret ?_ | with_reducible refine rThen ?_ | with_reducible refine rBlk ?_)
    refine wp_region_lit ?_
    refine' tlOp hF rfl rfl rfl ?_ ?_
    rotate_left
    · first | exact cMove rfl rfl | exact cCallS1 rfl (.t rfl) rA | exact cCallS1 rfl (Has.c (.t rfl) seg_sl) oA | exact cCallR3 rfl (.t rfl) (.t rfl) (Has.c (.t rfl) seg_sl) q1 (tabE_olds _ _ _ _)
    intro a w5_0 hF hb
    replace hB := hB.trans (hb.mono hB.size)
    refine' tlOp hF rfl rfl rfl ?_ ?_
    rotate_left
    · first | exact cMove rfl rfl | exact cCallS1 rfl (.t rfl) rA | exact cCallS1 rfl (Has.c (.t rfl) seg_sl) oA | exact cCallR3 rfl (.t rfl) (.t rfl) (Has.c (.t rfl) seg_sl) q1 (tabE_olds _ _ _ _)
    intro a w5_1 hF hb
    replace hB := hB.trans (hb.mono hB.size)
    refine' tlOp hF rfl rfl rfl ?_ ?_
    rotate_left
    · first | exact cMove rfl rfl | exact cCallS1 rfl (.t rfl) rA | exact cCallS1 rfl (Has.c (.t rfl) seg_sl) oA | exact cCallR3 rfl (.t rfl) (.t rfl) (Has.c (.t rfl) seg_sl) q1 (tabE_olds _ _ _ _)
    intro a w5_2 hF hb
    replace hB := hB.trans (hb.mono hB.size)
    refine' tlOp hF rfl rfl rfl ?_ ?_
    rotate_left
    · first | exact cMove rfl rfl | exact cCallS1 rfl (.t rfl) rA | exact cCallS1 rfl (Has.c (.t rfl) seg_sl) oA | exact cCallR3 rfl (.t rfl) (.t rfl) (Has.c (.t rfl) seg_sl) q1 (tabE_olds _ _ _ _)
    intro a w5_3 hF hb
    replace hB := hB.trans (hb.mono hB.size)
    refine' tlOp hF rfl rfl rfl ?_ ?_
    rotate_left
    · first | exact cMove rfl rfl | exact cCallS1 rfl (.t rfl) rA | exact cCallS1 rfl (Has.c (.t rfl) seg_sl) oA | exact cCallR3 rfl (.t rfl) (.t rfl) (Has.c (.t rfl) seg_sl) q1 (tabE_olds _ _ _ _)
    intro a w5_4 hF hb
    replace hB := hB.trans (hb.mono hB.size)
    refine' tlOp hF rfl rfl rfl ?_ ?_
    rotate_left
    · first | exact cMove rfl rfl | exact cCallS1 rfl (.t rfl) rA | exact cCallS1 rfl (Has.c (.t rfl) seg_sl) oA | exact cCallR3 rfl (.t rfl) (.t rfl) (Has.c (.t rfl) seg_sl) q1 (tabE_olds _ _ _ _)
    intro a w5_5 hF hb
    replace hB := hB.trans (hb.mono hB.size)
    refine' tlOp hF rfl rfl rfl ?_ ?_
    rotate_left
    · first | exact cMove rfl rfl | exact cCallS1 rfl (.t rfl) rA | exact cCallS1 rfl (Has.c (.t rfl) seg_sl) oA | exact cCallR3 rfl (.t rfl) (.t rfl) (Has.c (.t rfl) seg_sl) q1 (tabE_olds _ _ _ _)
    intro a w5_6 hF hb
    replace hB := hB.trans (hb.mono hB.size)
    refine' tlOp hF rfl rfl rfl ?_ ?_
    rotate_left
    · exact cExtT rfl rfl
    intro a w5_t hF hb
    replace hB := hB.trans (hb.mono hB.size)
    refine' tlOp hF rfl rfl rfl ?_ ?_
    rotate_left
    · exact cExtE rfl rfl
    intro a w5_e hF hb
    replace hB := hB.trans (hb.mono hB.size)
    refine tlNewTab hF rfl rfl rfl (by decide) rfl (run_alloc_i infoT83) rfl rfl rfl rfl tabO_tab sizeT83 fun a w5_n hF hb => ?_
    replace hB := hB.trans (hb.mono hB.size)
    refine' tlOp hF rfl rfl rfl ?_ ?_
    rotate_left
    · exact cAssign rfl rfl
    intro a w5 hF hb
    replace hB := hB.trans (hb.mono hB.size)
    try (refine wpList_nil ?_)
    repeat (first | with_reducible refine wp_seq ?_ | with_reducible refine nThen ?_ | with_reducible refine nBlk ?_ | with_reducible refine wp_skip ?_ | with_reducible refine wp_block ?_ | with_reducible refine wp_exit ?_ | with_reducible refine xThen ?_ | with_reducible refine xHere ?_ | with_reducible refine xFar (by decide) ?_ | with_reducible refine wp_ret ?_ | with_reducible refine rThen ?_ | with_reducible refine rBlk ?_)
    refine wp_region_lit ?_
    refine' tlOp hF rfl rfl rfl ?_ ?_
    rotate_left
    · first | exact cMove rfl rfl | exact cCallS1 rfl (.t rfl) rB | exact cCallR3 rfl (.t rfl) (.t rfl) (Has.c (.t rfl) seg_sl) p2 (tabE_olds _ _ _ _)
    intro a w6_0 hF hb
    replace hB := hB.trans (hb.mono hB.size)
    refine' tlOp hF rfl rfl rfl ?_ ?_
    rotate_left
    · first | exact cMove rfl rfl | exact cCallS1 rfl (.t rfl) rB | exact cCallR3 rfl (.t rfl) (.t rfl) (Has.c (.t rfl) seg_sl) p2 (tabE_olds _ _ _ _)
    intro a w6_1 hF hb
    replace hB := hB.trans (hb.mono hB.size)
    refine' tlOp hF rfl rfl rfl ?_ ?_
    rotate_left
    · first | exact cMove rfl rfl | exact cCallS1 rfl (.t rfl) rB | exact cCallR3 rfl (.t rfl) (.t rfl) (Has.c (.t rfl) seg_sl) p2 (tabE_olds _ _ _ _)
    intro a w6_2 hF hb
    replace hB := hB.trans (hb.mono hB.size)
    refine' tlOp hF rfl rfl rfl ?_ ?_
    rotate_left
    · first | exact cMove rfl rfl | exact cCallS1 rfl (.t rfl) rB | exact cCallR3 rfl (.t rfl) (.t rfl) (Has.c (.t rfl) seg_sl) p2 (tabE_olds _ _ _ _)
    intro a w6_3 hF hb
    replace hB := hB.trans (hb.mono hB.size)
    refine' tlOp hF rfl rfl rfl ?_ ?_
    rotate_left
    · first | exact cMove rfl rfl | exact cCallS1 rfl (.t rfl) rB | exact cCallR3 rfl (.t rfl) (.t rfl) (Has.c (.t rfl) seg_sl) p2 (tabE_olds _ _ _ _)
    intro a w6_4 hF hb
    replace hB := hB.trans (hb.mono hB.size)
    refine' tlOp hF rfl rfl rfl ?_ ?_
    rotate_left
    · first | exact cMove rfl rfl | exact cCallS1 rfl (.t rfl) rB | exact cCallR3 rfl (.t rfl) (.t rfl) (Has.c (.t rfl) seg_sl) p2 (tabE_olds _ _ _ _)
    intro a w6_5 hF hb
    replace hB := hB.trans (hb.mono hB.size)
    refine' tlOp hF rfl rfl rfl ?_ ?_
    rotate_left
    · exact cExtT rfl rfl
    intro a w6_t hF hb
    replace hB := hB.trans (hb.mono hB.size)
    refine' tlOp hF rfl rfl rfl ?_ ?_
    rotate_left
    · exact cExtE rfl rfl
    intro a w6_e hF hb
    replace hB := hB.trans (hb.mono hB.size)
    refine tlNewTab hF rfl rfl rfl (by decide) rfl (run_alloc_i infoT46) rfl rfl rfl rfl tabO_tab sizeT46 fun a w6_n hF hb => ?_
    replace hB := hB.trans (hb.mono hB.size)
    refine' tlOp hF rfl rfl rfl ?_ ?_
    rotate_left
    · exact cAssign rfl rfl
    intro a w6 hF hb
    replace hB := hB.trans (hb.mono hB.size)
    try (refine wpList_nil ?_)
    repeat (first | with_reducible refine wp_seq ?_ | with_reducible refine nThen ?_ | with_reducible refine nBlk ?_ | with_reducible refine wp_skip ?_ | with_reducible refine wp_block ?_ | with_reducible refine wp_exit ?_ | with_reducible refine xThen ?_ | with_reducible refine xHere ?_ | with_reducible refine xFar (by decide) ?_ | with_reducible refine wp_ret ?_ | with_reducible refine rThen ?_ | with_reducible refine rBlk ?_)
    refine wp_region_lit ?_
    refine' tlOp hF rfl rfl rfl ?_ ?_
    rotate_left
    · first | exact cMove rfl rfl | exact cCallS1 rfl (.t rfl) rB | exact cCallS1 rfl (Has.c (.t rfl) seg_sl) oB | exact cCallR3 rfl (.t rfl) (.t rfl) (Has.c (.t rfl) seg_sl) q2 (tabE_olds _ _ _ _)
    intro a w7_0 hF hb
    replace hB := hB.trans (hb.mono hB.size)
    refine' tlOp hF rfl rfl rfl ?_ ?_
    rotate_left
    · first | exact cMove rfl rfl | exact cCallS1 rfl (.t rfl) rB | exact cCallS1 rfl (Has.c (.t rfl) seg_sl) oB | exact cCallR3 rfl (.t rfl) (.t rfl) (Has.c (.t rfl) seg_sl) q2 (tabE_olds _ _ _ _)
    intro a w7_1 hF hb
    replace hB := hB.trans (hb.mono hB.size)
    refine' tlOp hF rfl rfl rfl ?_ ?_
    rotate_left
    · first | exact cMove rfl rfl | exact cCallS1 rfl (.t rfl) rB | exact cCallS1 rfl (Has.c (.t rfl) seg_sl) oB | exact cCallR3 rfl (.t rfl) (.t rfl) (Has.c (.t rfl) seg_sl) q2 (tabE_olds _ _ _ _)
    intro a w7_2 hF hb
    replace hB := hB.trans (hb.mono hB.size)
    refine' tlOp hF rfl rfl rfl ?_ ?_
    rotate_left
    · first | exact cMove rfl rfl | exact cCallS1 rfl (.t rfl) rB | exact cCallS1 rfl (Has.c (.t rfl) seg_sl) oB | exact cCallR3 rfl (.t rfl) (.t rfl) (Has.c (.t rfl) seg_sl) q2 (tabE_olds _ _ _ _)
    intro a w7_3 hF hb
    replace hB := hB.trans (hb.mono hB.size)
    refine' tlOp hF rfl rfl rfl ?_ ?_
    rotate_left
    · first | exact cMove rfl rfl | exact cCallS1 rfl (.t rfl) rB | exact cCallS1 rfl (Has.c (.t rfl) seg_sl) oB | exact cCallR3 rfl (.t rfl) (.t rfl) (Has.c (.t rfl) seg_sl) q2 (tabE_olds _ _ _ _)
    intro a w7_4 hF hb
    replace hB := hB.trans (hb.mono hB.size)
    refine' tlOp hF rfl rfl rfl ?_ ?_
    rotate_left
    · first | exact cMove rfl rfl | exact cCallS1 rfl (.t rfl) rB | exact cCallS1 rfl (Has.c (.t rfl) seg_sl) oB | exact cCallR3 rfl (.t rfl) (.t rfl) (Has.c (.t rfl) seg_sl) q2 (tabE_olds _ _ _ _)
    intro a w7_5 hF hb
    replace hB := hB.trans (hb.mono hB.size)
    refine' tlOp hF rfl rfl rfl ?_ ?_
    rotate_left
    · first | exact cMove rfl rfl | exact cCallS1 rfl (.t rfl) rB | exact cCallS1 rfl (Has.c (.t rfl) seg_sl) oB | exact cCallR3 rfl (.t rfl) (.t rfl) (Has.c (.t rfl) seg_sl) q2 (tabE_olds _ _ _ _)
    intro a w7_6 hF hb
    replace hB := hB.trans (hb.mono hB.size)
    refine' tlOp hF rfl rfl rfl ?_ ?_
    rotate_left
    · exact cExtT rfl rfl
    intro a w7_t hF hb
    replace hB := hB.trans (hb.mono hB.size)
    refine' tlOp hF rfl rfl rfl ?_ ?_
    rotate_left
    · exact cExtE rfl rfl
    intro a w7_e hF hb
    replace hB := hB.trans (hb.mono hB.size)
    refine tlNewTab hF rfl rfl rfl (by decide) rfl (run_alloc_i infoT83) rfl rfl rfl rfl tabO_tab sizeT83 fun a w7_n hF hb => ?_
    replace hB := hB.trans (hb.mono hB.size)
    refine' tlOp hF rfl rfl rfl ?_ ?_
    rotate_left
    · exact cAssign rfl rfl
    intro a w7 hF hb
    replace hB := hB.trans (hb.mono hB.size)
    try (refine wpList_nil ?_)
    repeat (first | with_reducible refine wp_seq ?_ | with_reducible refine nThen ?_ | with_reducible refine nBlk ?_ | with_reducible refine wp_skip ?_ | with_reducible refine wp_block ?_ | with_reducible refine wp_exit ?_ | with_reducible refine xThen ?_ | with_reducible refine xHere ?_ | with_reducible refine xFar (by decide) ?_ | with_reducible refine wp_ret ?_ | with_reducible refine rThen ?_ | with_reducible refine rBlk ?_)
    refine wp_region_lit ?_
    refine' tlOp hF rfl rfl rfl ?_ ?_
    rotate_left
    · first | exact cMove rfl rfl | exact cLoadTab46 rfl (.t rfl) | exact cCallR2 rfl (.t rfl) (.t rfl) m1 (tabE_olds _ _ _ _)
    intro a w8_0 hF hb
    replace hB := hB.trans (hb.mono hB.size)
    refine' tlOp hF rfl rfl rfl ?_ ?_
    rotate_left
    · first | exact cMove rfl rfl | exact cLoadTab46 rfl (.t rfl) | exact cCallR2 rfl (.t rfl) (.t rfl) m1 (tabE_olds _ _ _ _)
    intro a w8_1 hF hb
    replace hB := hB.trans (hb.mono hB.size)
    refine' tlOp hF rfl rfl rfl ?_ ?_
    rotate_left
    · first | exact cMove rfl rfl | exact cLoadTab46 rfl (.t rfl) | exact cCallR2 rfl (.t rfl) (.t rfl) m1 (tabE_olds _ _ _ _)
    intro a w8_2 hF hb
    replace hB := hB.trans (hb.mono hB.size)
    refine' tlOp hF rfl rfl rfl ?_ ?_
    rotate_left
    · first | exact cMove rfl rfl | exact cLoadTab46 rfl (.t rfl) | exact cCallR2 rfl (.t rfl) (.t rfl) m1 (tabE_olds _ _ _ _)
    intro a w8_3 hF hb
    replace hB := hB.trans (hb.mono hB.size)
    refine' tlOp hF rfl rfl rfl ?_ ?_
    rotate_left
    · exact cExtT rfl rfl
    intro a w8_t hF hb
    replace hB := hB.trans (hb.mono hB.size)
    refine' tlOp hF rfl rfl rfl ?_ ?_
    rotate_left
    · exact cExtE rfl rfl
    intro a w8_e hF hb
    replace hB := hB.trans (hb.mono hB.size)
    refine tlNewTab hF rfl rfl rfl (by decide) rfl (run_alloc_i infoT46) rfl rfl rfl rfl tabO_tab sizeT46 fun a w8_n hF hb => ?_
    replace hB := hB.trans (hb.mono hB.size)
    refine' tlOp hF rfl rfl rfl ?_ ?_
    rotate_left
    · exact cAssign rfl rfl
    intro a w8 hF hb
    replace hB := hB.trans (hb.mono hB.size)
    try (refine wpList_nil ?_)
    repeat (first | with_reducible refine wp_seq ?_ | with_reducible refine nThen ?_ | with_reducible refine nBlk ?_ | with_reducible refine wp_skip ?_ | with_reducible refine wp_block ?_ | with_reducible refine wp_exit ?_ | with_reducible refine xThen ?_ | with_reducible refine xHere ?_ | with_reducible refine xFar (by decide) ?_ | with_reducible refine wp_ret ?_ | with_reducible refine rThen ?_ | with_reducible refine rBlk ?_)
    refine wp_region_lit ?_
    refine' tlOp hF rfl rfl rfl ?_ ?_
    rotate_left
    · first | exact cMove rfl rfl | exact cLoadTab83 rfl (.t rfl) | exact cCallR2 rfl (.t rfl) (.t rfl) m2 (tabE_olds _ _ _ _)
    intro a w9_0 hF hb
    replace hB := hB.trans (hb.mono hB.size)
    refine' tlOp hF rfl rfl rfl ?_ ?_
    rotate_left
    · first | exact cMove rfl rfl | exact cLoadTab83 rfl (.t rfl) | exact cCallR2 rfl (.t rfl) (.t rfl) m2 (tabE_olds _ _ _ _)
    intro a w9_1 hF hb
    replace hB := hB.trans (hb.mono hB.size)
    refine' tlOp hF rfl rfl rfl ?_ ?_
    rotate_left
    · first | exact cMove rfl rfl | exact cLoadTab83 rfl (.t rfl) | exact cCallR2 rfl (.t rfl) (.t rfl) m2 (tabE_olds _ _ _ _)
    intro a w9_2 hF hb
    replace hB := hB.trans (hb.mono hB.size)
    refine' tlOp hF rfl rfl rfl ?_ ?_
    rotate_left
    · first | exact cMove rfl rfl | exact cLoadTab83 rfl (.t rfl) | exact cCallR2 rfl (.t rfl) (.t rfl) m2 (tabE_olds _ _ _ _)
    intro a w9_3 hF hb
    replace hB := hB.trans (hb.mono hB.size)
    refine' tlOp hF rfl rfl rfl ?_ ?_
    rotate_left
    · exact cExtT rfl rfl
    intro a w9_t hF hb
    replace hB := hB.trans (hb.mono hB.size)
    refine' tlOp hF rfl rfl rfl ?_ ?_
    rotate_left
    · exact cExtE rfl rfl
    intro a w9_e hF hb
    replace hB := hB.trans (hb.mono hB.size)
    refine tlNewTab hF rfl rfl rfl (by decide) rfl (run_alloc_i infoT83) rfl rfl rfl rfl tabO_tab sizeT83 fun a w9_n hF hb => ?_
    replace hB := hB.trans (hb.mono hB.size)
    refine' tlOp hF rfl rfl rfl ?_ ?_
    rotate_left
    · exact cAssign rfl rfl
    intro a w9 hF hb
    replace hB := hB.trans (hb.mono hB.size)
    try (refine wpList_nil ?_)
    repeat (first | with_reducible refine wp_seq ?_ | with_reducible refine nThen ?_ | with_reducible refine nBlk ?_ | with_reducible refine wp_skip ?_ | with_reducible refine wp_block ?_ | with_reducible refine wp_exit ?_ | with_reducible refine xThen ?_ | with_reducible refine xHere ?_ | with_reducible refine xFar (by decide) ?_ | with_reducible refine wp_ret ?_ | with_reducible refine rThen ?_ | with_reducible refine rBlk ?_)
    repeat (first | with_reducible refine wp_seq ?_ | with_reducible refine nThen ?_ | with_reducible refine nBlk ?_ | with_reducible refine wp_skip ?_ | with_reducible refine wp_block ?_ | with_reducible refine wp_exit ?_ | with_reducible refine xThen ?_ | with_reducible refine xHere ?_ | with_reducible refine xFar (by decide) ?_ | with_reducible refine wp_ret ?_ | with_reducible refine rThen ?_ | with_reducible refine rBlk ?_)
    refine' reg_all hF ?_ mixed (by kernel_rfl) ?_
    rotate_left
    · repeat (first
          | exact Line.nil
          | (refine' Line.cons rfl (.no rfl rfl rfl rfl rfl rfl) ?_; rotate_left)
          | ((first | refine' Line.cons rfl (.run rfl rfl ?_) ?_ | refine' Line.cons rfl (.yes rfl rfl rfl rfl ?_) ?_)
             any_goals (first | exact cMove rfl rfl | exact cAssign rfl rfl | exact cNot rfl rfl | exact OpOk.b (c := false) (cNeq rfl rfl rfl) rfl | exact cLoadTab46 rfl (.t rfl) | exact cLoadTab83 rfl (.t rfl) | exact cCallR1 rfl (.t rfl) tO (tabO_olds _ _ _) | exact cCallH2 rfl (Has.c (.t rfl) tabO_tab) (.t rfl) tS | exact cPickT rfl rfl rfl | exact cPickF rfl rfl rfl | exact cLss rfl rfl rfl | exact cLeq rfl rfl rfl | exact cGtr rfl rfl rfl | exact cGeq rfl rfl rfl | exact cEql rfl rfl rfl | exact cNeq rfl rfl rfl | exact cExtract rfl rfl rfl)
             rotate_left))
    intro a w10 hF hb hN
    have hBs := hB.size
    replace hB := hB.trans (hb.mono hB.size)
    dsimp only [ext, Option.getD] at hF
    repeat (first | with_reducible refine wp_seq ?_ | with_reducible refine nThen ?_ | with_reducible refine nBlk ?_ | with_reducible refine wp_skip ?_ | with_reducible refine wp_block ?_ | with_reducible refine wp_exit ?_ | with_reducible refine xThen ?_ | with_reducible refine xHere ?_ | with_reducible refine xFar (by decide) ?_ | with_reducible refine wp_ret ?_ | with_reducible refine rThen ?_ | with_reducible refine rBlk ?_)
    refine cond_f hF rfl ?_
    repeat (first | with_reducible refine wp_seq ?_ | with_reducible refine nThen ?_ | with_reducible refine nBlk ?_ | with_reducible refine wp_skip ?_ | with_reducible refine wp_block ?_ | with_reducible refine wp_exit ?_ | with_reducible refine xThen ?_ | with_reducible refine xHere ?_ | with_reducible refine xFar (by decide) ?_ | with_reducible refine wp_ret ?_ | with_reducible refine rThen ?_ | with_reducible refine rBlk ?_)
    refine' reg_all hF ?_ mixed (by kernel_rfl) ?_
    rotate_left
    · repeat (first
          | exact Line.nil
          | (refine' Line.cons rfl (.no rfl rfl rfl rfl rfl rfl) ?_; rotate_left)
          | ((first | refine' Line.cons rfl (.run rfl rfl ?_) ?_ | refine' Line.cons rfl (.yes rfl rfl rfl rfl ?_) ?_)
             any_goals (first | exact cMove rfl rfl | exact cAssign rfl rfl | exact cNot rfl rfl | exact OpOk.b (c := true) (cNeq rfl rfl rfl) rfl | exact cPickT rfl rfl rfl | exact cPickF rfl rfl rfl | exact cLss rfl rfl rfl | exact cLeq rfl rfl rfl | exact cGtr rfl rfl rfl | exact cGeq rfl rfl rfl | exact cEql rfl rfl rfl | exact cNeq rfl rfl rfl | exact cExtract rfl rfl rfl)
             rotate_left))
    intro a w11 hF hb hN
    have hBs := hB.size
    replace hB := hB.trans (hb.mono hB.size)
    dsimp only [ext, Option.getD] at hF
    repeat (first | with_reducible refine wp_seq ?_ | with_reducible refine nThen ?_ | with_reducible refine nBlk ?_ | with_reducible refine wp_skip ?_ | with_reducible refine wp_block ?_ | with_reducible refine wp_exit ?_ | with_reducible refine xThen ?_ | with_reducible refine xHere ?_ | with_reducible refine xFar (by decide) ?_ | with_reducible refine wp_ret ?_ | with_reducible refine rThen ?_ | with_reducible refine rBlk ?_)
    refine cond_t hF rfl ?_
    obtain ⟨v11, ⟨s11, ha, hsl⟩, hF⟩ := hF.open (s := 11) rfl
    have hsl : (Ty.cls 87 []).p w11 s11 := hsl
    repeat (first | with_reducible refine wp_seq ?_ | with_reducible refine nThen ?_ | with_reducible refine nBlk ?_ | with_reducible refine wp_skip ?_ | with_reducible refine wp_block ?_ | with_reducible refine wp_exit ?_ | with_reducible refine xThen ?_ | with_reducible refine xHere ?_ | with_reducible refine xFar (by decide) ?_ | with_reducible refine wp_ret ?_ | with_reducible refine rThen ?_ | with_reducible refine rBlk ?_)
    refine' reg_all hF ?_ mixed (by kernel_rfl) ?_
    rotate_left
    · repeat (first
          | exact Line.nil
          | (refine' Line.cons rfl (.no rfl rfl rfl rfl rfl rfl) ?_; rotate_left)
          | ((first | refine' Line.cons rfl (.run rfl rfl ?_) ?_ | refine' Line.cons rfl (.yes rfl rfl rfl rfl ?_) ?_)
             any_goals (first | exact cMove rfl rfl | exact cAssign rfl rfl | exact cNot rfl rfl | exact cFldL46 rfl (.l rfl ha) | exact cRowOf46 rfl (.t rfl) | exact cLenH rfl (.l rfl hsl) (Ty.sl_isSl _ _ _) Try.underlying39 | exact OpOk.b (c := true) (cEql rfl rfl rfl) rfl | exact cPickT rfl rfl rfl | exact cPickF rfl rfl rfl | exact cLss rfl rfl rfl | exact cLeq rfl rfl rfl | exact cGtr rfl rfl rfl | exact cGeq rfl rfl rfl | exact cEql rfl rfl rfl | exact cNeq rfl rfl rfl | exact cExtract rfl rfl rfl)
             rotate_left))
    intro a w12 hF hb hN
    have hBs := hB.size
    replace hB := hB.trans (hb.mono hB.size)
    dsimp only [ext, Option.getD] at hF
    repeat (first | with_reducible refine wp_seq ?_ | with_reducible refine nThen ?_ | with_reducible refine nBlk ?_ | with_reducible refine wp_skip ?_ | with_reducible refine wp_block ?_ | with_reducible refine wp_exit ?_ | with_reducible refine xThen ?_ | with_reducible refine xHere ?_ | with_reducible refine xFar (by decide) ?_ | with_reducible refine wp_ret ?_ | with_reducible refine rThen ?_ | with_reducible refine rBlk ?_)
    refine ret1 hF rfl rfl fun z hz => ?_
    exact ⟨by rw [show z = .bool true from hz], hB⟩
  rw [newE_good hg, newS_good hg] at p1 q1 p2 q2
  have hr := of_decide_eq_true hg
  have lP : (ofL seed n LA).length = n.toNat := ofL_len hg
  have lR : (ofL seed n LB).length = n.toNat := ofL_len hg
  have gP := ofL_good (seed := seed) (D := LA) hg
  generalize ofL seed n LA = A at *
  generalize ofL seed n LB = B at *
  have k1 := minOk_good (s := seed) gP (lP.trans lR.symm)
  have m1 := tminus_ty seed seed A B
  have m2 := r13minus_ty seed seed A B
  rw [show minL seed seed A B = tminus A B by unfold minL; rw [k1]; rfl, show minS seed seed A B = seed by unfold minS; rw [k1]; rfl, show minE seed seed A B = .int .i64 0 by unfold minE; rw [k1]; rfl] at m1 m2
  have lC : (tminus A B).length = n.toNat := (tminus_len (lP.trans lR.symm)).trans lP
  generalize tminus A B = C at *
  have tOA := tableOf15_ty seed A (by omega)
  have tSA := sameT15_ty seed seed A A (by omega)
  have tOC := tableOf15_ty seed C (by omega)
  have tSC := sameT15_ty seed seed C C (by omega)
  have u1 := tput_ty seed A x (by omega) hsd
  have u2 := ttake_ty seed A x (by omega) hsd
  have u3 := rput_ty seed A x 1 (by omega) hsd
  have u4 := rput_ty seed A x (-1) (by omega) hsd
  have l1 : (tput seed A x 1).length = n.toNat := (tput_len _ _ _ _).trans lP
  have l2 : (tput seed A x (-1)).length = n.toNat := (tput_len _ _ _ _).trans lP
  generalize tput seed A x 1 = A1 at *
  generalize tput seed A x (-1) = A2 at *
  have tO1 := tableOf15_ty seed A1 (by omega)
  have tS1 := sameT15_ty seed seed A1 A1 (by omega)
  have tO2 := tableOf15_ty seed A2 (by omega)
  have tS2 := sameT15_ty seed seed A2 A2 (by omega)
  rw [decide_eq_true rfl, decide_eq_true rfl] at tSA tSC tS1 tS2
  have z1 := tzero_ty seed C
  have z2 := rzero_ty seed C (by omega)
  have n1 := tcount_ty seed C
  have n2 := rtcount_ty seed C (by omega)
  have g1 := tgood_ty seed A
  rw [gP] at g1
  generalize (goodN (C.length : Int) && allZ C) = zb at *
  generalize countN C = cn at *
  refine wp_region_lit ?_
  refine' tlOp hF rfl rfl rfl ?_ ?_
  rotate_left
  · first | exact cMove rfl rfl | exact cCallS1 rfl (.t rfl) rA | exact cCallR3 rfl (.t rfl) (.t rfl) (Has.c (.t rfl) seg_sl) p1 (tabE_olds _ _ _ _)
  intro a w4_0 hF hb
  replace hB := hB.trans (hb.mono hB.size)
  refine' tlOp hF rfl rfl rfl ?_ ?_
  rotate_left
  · first | exact cMove rfl rfl | exact cCallS1 rfl (.t rfl) rA | exact cCallR3 rfl (.t rfl) (.t rfl) (Has.c (.t rfl) seg_sl) p1 (tabE_olds _ _ _ _)
  intro a w4_1 hF hb
  replace hB := hB.trans (hb.mono hB.size)
  refine' tlOp hF rfl rfl rfl ?_ ?_
  rotate_left
  · first | exact cMove rfl rfl | exact cCallS1 rfl (.t rfl) rA | exact cCallR3 rfl (.t rfl) (.t rfl) (Has.c (.t rfl) seg_sl) p1 (tabE_olds _ _ _ _)
  intro a w4_2 hF hb
  replace hB := hB.trans (hb.mono hB.size)
  refine' tlOp hF rfl rfl rfl ?_ ?_
  rotate_left
  · first | exact cMove rfl rfl | exact cCallS1 rfl (.t rfl) rA | exact cCallR3 rfl (.t rfl) (.t rfl) (Has.c (.t rfl) seg_sl) p1 (tabE_olds _ _ _ _)
  intro a w4_3 hF hb
  replace hB := hB.trans (hb.mono hB.size)
  refine' tlOp hF rfl rfl rfl ?_ ?_
  rotate_left
  · first | exact cMove rfl rfl | exact cCallS1 rfl (.t rfl) rA | exact cCallR3 rfl (.t rfl) (.t rfl) (Has.c (.t rfl) seg_sl) p1 (tabE_olds _ _ _ _)
  intro a w4_4 hF hb
  replace hB := hB.trans (hb.mono hB.size)
  refine' tlOp hF rfl rfl rfl ?_ ?_
  rotate_left
  · first | exact cMove rfl rfl | exact cCallS1 rfl (.t rfl) rA | exact cCallR3 rfl (.t rfl) (.t rfl) (Has.c (.t rfl) seg_sl) p1 (tabE_olds _ _ _ _)
  intro a w4_5 hF hb
  replace hB := hB.trans (hb.mono hB.size)
  refine' tlOp hF rfl rfl rfl ?_ ?_
  rotate_left
  · exact cExtT rfl rfl
  intro a w4_t hF hb
  replace hB := hB.trans (hb.mono hB.size)
  refine' tlOp hF rfl rfl rfl ?_ ?_
  rotate_left
  · exact cExtE rfl rfl
  intro a w4_e hF hb
  replace hB := hB.trans (hb.mono hB.size)
  refine tlNewTab hF rfl rfl rfl (by decide) rfl (run_alloc_i infoT46) rfl rfl rfl rfl tabO_tab sizeT46 fun a w4_n hF hb => ?_
  replace hB := hB.trans (hb.mono hB.size)
  refine' tlOp hF rfl rfl rfl ?_ ?_
  rotate_left
  · exact cAssign rfl rfl
  intro a w4 hF hb
  replace hB := hB.trans (hb.mono hB.size)
  try (refine wpList_nil ?_)
  repeat (first | with_reducible refine wp_seq ?_ | with_reducible refine nThen ?_ | with_reducible refine nBlk ?_ | with_reducible refine wp_skip ?_ | with_reducible refine wp_block ?_ | with_reducible refine wp_exit ?_ | with_reducible refine xThen ?_ | with_reducible refine xHere ?_ | with_reducible refine xFar (by decide) ?_ | with_reducible refine wp_ret ?_ | with_reducible refine rThen ?_ | with_reducible refine rBlk ?_)
  refine wp_region_lit ?_
  refine' tlOp hF rfl rfl rfl ?_ ?_
  rotate_left
  · first | exact cMove rfl rfl | exact cCallS1 rfl (.t rfl) rA | exact cCallS1 rfl (Has.c (.t rfl) seg_sl) oA | exact cCallR3 rfl (.t rfl) (.t rfl) (Has.c (.t rfl) seg_sl) q1 (tabE_olds _ _ _ _)
  intro a w5_0 hF hb
  replace hB := hB.trans (hb.mono hB.size)
  refine' tlOp hF rfl rfl rfl ?_ ?_
  rotate_left
  · first | exact cMove rfl rfl | exact cCallS1 rfl (.t rfl) rA | exact cCallS1 rfl (Has.c (.t rfl) seg_sl) oA | exact cCallR3 rfl (.t rfl) (.t rfl) (Has.c (.t rfl) seg_sl) q1 (tabE_olds _ _ _ _)
  intro a w5_1 hF hb
  replace hB := hB.trans (hb.mono hB.size)
  refine' tlOp hF rfl rfl rfl ?_ ?_
  rotate_left
  · first | exact cMove rfl rfl | exact cCallS1 rfl (.t rfl) rA | exact cCallS1 rfl (Has.c (.t rfl) seg_sl) oA | exact cCallR3 rfl (.t rfl) (.t rfl) (Has.c (.t rfl) seg_sl) q1 (tabE_olds _ _ _ _)
  intro a w5_2 hF hb
  replace hB := hB.trans (hb.mono hB.size)
  refine' tlOp hF rfl rfl rfl ?_ ?_
  rotate_left
  · first | exact cMove rfl rfl | exact cCallS1 rfl (.t rfl) rA | exact cCallS1 rfl (Has.c (.t rfl) seg_sl) oA | exact cCallR3 rfl (.t rfl) (.t rfl) (Has.c (.t rfl) seg_sl) q1 (tabE_olds _ _ _ _)
  intro a w5_3 hF hb
  replace hB := hB.trans (hb.mono hB.size)
  refine' tlOp hF rfl rfl rfl ?_ ?_
  rotate_left
  · first | exact cMove rfl rfl | exact cCallS1 rfl (.t rfl) rA | exact cCallS1 rfl (Has.c (.t rfl) seg_sl) oA | exact cCallR3 rfl (.t rfl) (.t rfl) (Has.c (.t rfl) seg_sl) q1 (tabE_olds _ _ _ _)
  intro a w5_4 hF hb
  replace hB := hB.trans (hb.mono hB.size)
  refine' tlOp hF rfl rfl rfl ?_ ?_
  rotate_left
  · first | exact cMove rfl rfl | exact cCallS1 rfl (.t rfl) rA | exact cCallS1 rfl (Has.c (.t rfl) seg_sl) oA | exact cCallR3 rfl (.t rfl) (.t rfl) (Has.c (.t rfl) seg_sl) q1 (tabE_olds _ _ _ _)
  intro a w5_5 hF hb
  replace hB := hB.trans (hb.mono hB.size)
  refine' tlOp hF rfl rfl rfl ?_ ?_
  rotate_left
  · first | exact cMove rfl rfl | exact cCallS1 rfl (.t rfl) rA | exact cCallS1 rfl (Has.c (.t rfl) seg_sl) oA | exact cCallR3 rfl (.t rfl) (.t rfl) (Has.c (.t rfl) seg_sl) q1 (tabE_olds _ _ _ _)
  intro a w5_6 hF hb
  replace hB := hB.trans (hb.mono hB.size)
  refine' tlOp hF rfl rfl rfl ?_ ?_
  rotate_left
  · exact cExtT rfl rfl
  intro a w5_t hF hb
  replace hB := hB.trans (hb.mono hB.size)
  refine' tlOp hF rfl rfl rfl ?_ ?_
  rotate_left
  · exact cExtE rfl rfl
  intro a w5_e hF hb
  replace hB := hB.trans (hb.mono hB.size)
  refine tlNewTab hF rfl rfl rfl (by decide) rfl (run_alloc_i infoT83) rfl rfl rfl rfl tabO_tab sizeT83 fun a w5_n hF hb => ?_
  replace hB := hB.trans (hb.mono hB.size)
  refine' tlOp hF rfl rfl rfl ?_ ?_
  rotate_left
  · exact cAssign rfl rfl
  intro a w5 hF hb
  replace hB := hB.trans (hb.mono hB.size)
  try (refine wpList_nil ?_)
  repeat (first | with_reducible refine wp_seq ?_ | with_reducible refine nThen ?_ | with_reducible refine nBlk ?_ | with_reducible refine wp_skip ?_ | with_reducible refine wp_block ?_ | with_reducible refine wp_exit ?_ | with_reducible refine xThen ?_ | with_reducible refine xHere ?_ | with_reducible refine xFar (by decide) ?_ | with_reducible refine wp_ret ?_ | with_reducible refine rThen ?_ | with_reducible refine rBlk ?_)
  refine wp_region_lit ?_
  refine' tlOp hF rfl rfl rfl ?_ ?_
  rotate_left
  · first | exact cMove rfl rfl | exact cCallS1 rfl (.t rfl) rB | exact cCallR3 rfl (.t rfl) (.t rfl) (Has.c (.t rfl) seg_sl) p2 (tabE_olds _ _ _ _)
  intro a w6_0 hF hb
  replace hB := hB.trans (hb.mono hB.size)
  refine' tlOp hF rfl rfl rfl ?_ ?_
  rotate_left
  · first | exact cMove rfl rfl | exact cCallS1 rfl (.t rfl) rB | exact cCallR3 rfl (.t rfl) (.t rfl) (Has.c (.t rfl) seg_sl) p2 (tabE_olds _ _ _ _)
  intro a w6_1 hF hb
  replace hB := hB.trans (hb.mono hB.size)
  refine' tlOp hF rfl rfl rfl ?_ ?_
  rotate_left
  · first | exact cMove rfl rfl | exact cCallS1 rfl (.t rfl) rB | exact cCallR3 rfl (.t rfl) (.t rfl) (Has.c (.t rfl) seg_sl) p2 (tabE_olds _ _ _ _)
  intro a w6_2 hF hb
  replace hB := hB.trans (hb.mono hB.size)
  refine' tlOp hF rfl rfl rfl ?_ ?_
  rotate_left
  · first | exact cMove rfl rfl | exact cCallS1 rfl (.t rfl) rB | exact cCallR3 rfl (.t rfl) (.t rfl) (Has.c (.t rfl) seg_sl) p2 (tabE_olds _ _ _ _)
  intro a w6_3 hF hb
  replace hB := hB.trans (hb.mono hB.size)
  refine' tlOp hF rfl rfl rfl ?_ ?_
  rotate_left
  · first | exact cMove rfl rfl | exact cCallS1 rfl (.t rfl) rB | exact cCallR3 rfl (.t rfl) (.t rfl) (Has.c (.t rfl) seg_sl) p2 (tabE_olds _ _ _ _)
  intro a w6_4 hF hb
  replace hB := hB.trans (hb.mono hB.size)
  refine' tlOp hF rfl rfl rfl ?_ ?_
  rotate_left
  · first | exact cMove rfl rfl | exact cCallS1 rfl (.t rfl) rB | exact cCallR3 rfl (.t rfl) (.t rfl) (Has.c (.t rfl) seg_sl) p2 (tabE_olds _ _ _ _)
  intro a w6_5 hF hb
  replace hB := hB.trans (hb.mono hB.size)
  refine' tlOp hF rfl rfl rfl ?_ ?_
  rotate_left
  · exact cExtT rfl rfl
  intro a w6_t hF hb
  replace hB := hB.trans (hb.mono hB.size)
  refine' tlOp hF rfl rfl rfl ?_ ?_
  rotate_left
  · exact cExtE rfl rfl
  intro a w6_e hF hb
  replace hB := hB.trans (hb.mono hB.size)
  refine tlNewTab hF rfl rfl rfl (by decide) rfl (run_alloc_i infoT46) rfl rfl rfl rfl tabO_tab sizeT46 fun a w6_n hF hb => ?_
  replace hB := hB.trans (hb.mono hB.size)
  refine' tlOp hF rfl rfl rfl ?_ ?_
  rotate_left
  · exact cAssign rfl rfl
  intro a w6 hF hb
  replace hB := hB.trans (hb.mono hB.size)
  try (refine wpList_nil ?_)
  repeat (first | with_reducible refine wp_seq ?_ | with_reducible refine nThen ?_ | with_reducible refine nBlk ?_ | with_reducible refine wp_skip ?_ | with_reducible refine wp_block ?_ | with_reducible refine wp_exit ?_ | with_reducible refine xThen ?_ | with_reducible refine xHere ?_ | with_reducible refine xFar (by decide) ?_ | with_reducible refine wp_ret ?_ | with_reducible refine rThen ?_ | with_reducible refine rBlk ?_)
  refine wp_region_lit ?_
  refine' tlOp hF rfl rfl rfl ?_ ?_
  rotate_left
  · first | exact cMove rfl rfl | exact cCallS1 rfl (.t rfl) rB | exact cCallS1 rfl (Has.c (.t rfl) seg_sl) oB | exact cCallR3 rfl (.t rfl) (.t rfl) (Has.c (.t rfl) seg_sl) q2 (tabE_olds _ _ _ _)
  intro a w7_0 hF hb
  replace hB := hB.trans (hb.mono hB.size)
  refine' tlOp hF rfl rfl rfl ?_ ?_
  rotate_left
  · first | exact cMove rfl rfl | exact cCallS1 rfl (.t rfl) rB | exact cCallS1 rfl (Has.c (.t rfl) seg_sl) oB | exact cCallR3 rfl (.t rfl) (.t rfl) (Has.c (.t rfl) seg_sl) q2 (tabE_olds _ _ _ _)
  intro a w7_1 hF hb
  replace hB := hB.trans (hb.mono hB.size)
  refine' tlOp hF rfl rfl rfl ?_ ?_
  rotate_left
  · first | exact cMove rfl rfl | exact cCallS1 rfl (.t rfl) rB | exact cCallS1 rfl (Has.c (.t rfl) seg_sl) oB | exact cCallR3 rfl (.t rfl) (.t rfl) (Has.c (.t rfl) seg_sl) q2 (tabE_olds _ _ _ _)
  intro a w7_2 hF hb
  replace hB := hB.trans (hb.mono hB.size)
  refine' tlOp hF rfl rfl rfl ?_ ?_
  rotate_left
  · first | exact cMove rfl rfl | exact cCallS1 rfl (.t rfl) rB | exact cCallS1 rfl (Has.c (.t rfl) seg_sl) oB | exact cCallR3 rfl (.t rfl) (.t rfl) (Has.c (.t rfl) seg_sl) q2 (tabE_olds _ _ _ _)
  intro a w7_3 hF hb
  replace hB := hB.trans (hb.mono hB.size)
  refine' tlOp hF rfl rfl rfl ?_ ?_
  rotate_left
  · first | exact cMove rfl rfl | exact cCallS1 rfl (.t rfl) rB | exact cCallS1 rfl (Has.c (.t rfl) seg_sl) oB | exact cCallR3 rfl (.t rfl) (.t rfl) (Has.c (.t rfl) seg_sl) q2 (tabE_olds _ _ _ _)
  intro a w7_4 hF hb
  replace hB := hB.trans (hb.mono hB.size)
  refine' tlOp hF rfl rfl rfl ?_ ?_
  rotate_left
  · first | exact cMove rfl rfl | exact cCallS1 rfl (.t rfl) rB | exact cCallS1 rfl (Has.c (.t rfl) seg_sl) oB | exact cCallR3 rfl (.t rfl) (.t rfl) (Has.c (.t rfl) seg_sl) q2 (tabE_olds _ _ _ _)
  intro a w7_5 hF hb
  replace hB := hB.trans (hb.mono hB.size)
  refine' tlOp hF rfl rfl rfl ?_ ?_
  rotate_left
  · first | exact cMove rfl rfl | exact cCallS1 rfl (.t rfl) rB | exact cCallS1 rfl (Has.c (.t rfl) seg_sl) oB | exact cCallR3 rfl (.t rfl) (.t rfl) (Has.c (.t rfl) seg_sl) q2 (tabE_olds _ _ _ _)
  intro a w7_6 hF hb
  replace hB := hB.trans (hb.mono hB.size)
  refine' tlOp hF rfl rfl rfl ?_ ?_
  rotate_left
  · exact cExtT rfl rfl
  intro a w7_t hF hb
  replace hB := hB.trans (hb.mono hB.size)
  refine' tlOp hF rfl rfl rfl ?_ ?_
  rotate_left
  · exact cExtE rfl rfl
  intro a w7_e hF hb
  replace hB := hB.trans (hb.mono hB.size)
  refine tlNewTab hF rfl rfl rfl (by decide) rfl (run_alloc_i infoT83) rfl rfl rfl rfl tabO_tab sizeT83 fun a w7_n hF hb => ?_
  replace hB := hB.trans (hb.mono hB.size)
  refine' tlOp hF rfl rfl rfl ?_ ?_
  rotate_left
  · exact cAssign rfl rfl
  intro a w7 hF hb
  replace hB := hB.trans (hb.mono hB.size)
  try (refine wpList_nil ?_)
  repeat (first | with_reducible refine wp_seq ?_ | with_reducible refine nThen ?_ | with_reducible refine nBlk ?_ | with_reducible refine wp_skip ?_ | with_reducible refine wp_block ?_ | with_reducible refine wp_exit ?_ | with_reducible refine xThen ?_ | with_reducible refine xHere ?_ | with_reducible refine xFar (by decide) ?_ | with_reducible refine wp_ret ?_ | with_reducible refine rThen ?_ | with_reducible refine rBlk ?_)
  refine wp_region_lit ?_
  refine' tlOp hF rfl rfl rfl ?_ ?_
  rotate_left
  · first | exact cMove rfl rfl | exact cLoadTab46 rfl (.t rfl) | exact cCallR2 rfl (.t rfl) (.t rfl) m1 (tabE_olds _ _ _ _)
  intro a w8_0 hF hb
  replace hB := hB.trans (hb.mono hB.size)
  refine' tlOp hF rfl rfl rfl ?_ ?_
  rotate_left
  · first | exact cMove rfl rfl | exact cLoadTab46 rfl (.t rfl) | exact cCallR2 rfl (.t rfl) (.t rfl) m1 (tabE_olds _ _ _ _)
  intro a w8_1 hF hb
  replace hB := hB.trans (hb.mono hB.size)
  refine' tlOp hF rfl rfl rfl ?_ ?_
  rotate_left
  · first | exact cMove rfl rfl | exact cLoadTab46 rfl (.t rfl) | exact cCallR2 rfl (.t rfl) (.t rfl) m1 (tabE_olds _ _ _ _)
  intro a w8_2 hF hb
  replace hB := hB.trans (hb.mono hB.size)
  refine' tlOp hF rfl rfl rfl ?_ ?_
  rotate_left
  · first | exact cMove rfl rfl | exact cLoadTab46 rfl (.t rfl) | exact cCallR2 rfl (.t rfl) (.t rfl) m1 (tabE_olds _ _ _ _)
  intro a w8_3 hF hb
  replace hB := hB.trans (hb.mono hB.size)
  refine' tlOp hF rfl rfl rfl ?_ ?_
  rotate_left
  · exact cExtT rfl rfl
  intro a w8_t hF hb
  replace hB := hB.trans (hb.mono hB.size)
  refine' tlOp hF rfl rfl rfl ?_ ?_
  rotate_left
  · exact cExtE rfl rfl
  intro a w8_e hF hb
  replace hB := hB.trans (hb.mono hB.size)
  refine tlNewTab hF rfl rfl rfl (by decide) rfl (run_alloc_i infoT46) rfl rfl rfl rfl tabO_tab sizeT46 fun a w8_n hF hb => ?_
  replace hB := hB.trans (hb.mono hB.size)
  refine' tlOp hF rfl rfl rfl ?_ ?_
  rotate_left
  · exact cAssign rfl rfl
  intro a w8 hF hb
  replace hB := hB.trans (hb.mono hB.size)
  try (refine wpList_nil ?_)
  repeat (first | with_reducible refine wp_seq ?_ | with_reducible refine nThen ?_ | with_reducible refine nBlk ?_ | with_reducible refine wp_skip ?_ | with_reducible refine wp_block ?_ | with_reducible refine wp_exit ?_ | with_reducible refine xThen ?_ | with_reducible refine xHere ?_ | with_reducible refine xFar (by decide) ?_ | with_reducible refine wp_ret ?_ | with_reducible refine rThen ?_ | with_reducible refine rBlk ?_)
  refine wp_region_lit ?_
  refine' tlOp hF rfl rfl rfl ?_ ?_
  rotate_left
  · first | exact cMove rfl rfl | exact cLoadTab83 rfl (.t rfl) | exact cCallR2 rfl (.t rfl) (.t rfl) m2 (tabE_olds _ _ _ _)
  intro a w9_0 hF hb
  replace hB := hB.trans (hb.mono hB.size)
  refine' tlOp hF rfl rfl rfl ?_ ?_
  rotate_left
  · first | exact cMove rfl rfl | exact cLoadTab83 rfl (.t rfl) | exact cCallR2 rfl (.t rfl) (.t rfl) m2 (tabE_olds _ _ _ _)
  intro a w9_1 hF hb
  replace hB := hB.trans (hb.mono hB.size)
  refine' tlOp hF rfl rfl rfl ?_ ?_
  rotate_left
  · first | exact cMove rfl rfl | exact cLoadTab83 rfl (.t rfl) | exact cCallR2 rfl (.t rfl) (.t rfl) m2 (tabE_olds _ _ _ _)
  intro a w9_2 hF hb
  replace hB := hB.trans (hb.mono hB.size)
  refine' tlOp hF rfl rfl rfl ?_ ?_
  rotate_left
  · first | exact cMove rfl rfl | exact cLoadTab83 rfl (.t rfl) | exact cCallR2 rfl (.t rfl) (.t rfl) m2 (tabE_olds _ _ _ _)
  intro a w9_3 hF hb
  replace hB := hB.trans (hb.mono hB.size)
  refine' tlOp hF rfl rfl rfl ?_ ?_
  rotate_left
  · exact cExtT rfl rfl
  intro a w9_t hF hb
  replace hB := hB.trans (hb.mono hB.size)
  refine' tlOp hF rfl rfl rfl ?_ ?_
  rotate_left
  · exact cExtE rfl rfl
  intro a w9_e hF hb
  replace hB := hB.trans (hb.mono hB.size)
  refine tlNewTab hF rfl rfl rfl (by decide) rfl (run_alloc_i infoT83) rfl rfl rfl rfl tabO_tab sizeT83 fun a w9_n hF hb => ?_
  replace hB := hB.trans (hb.mono hB.size)
  refine' tlOp hF rfl rfl rfl ?_ ?_
  rotate_left
  · exact cAssign rfl rfl
  intro a w9 hF hb
  replace hB := hB.trans (hb.mono hB.size)
  try (refine wpList_nil ?_)
  repeat (first | with_reducible refine wp_seq ?_ | with_reducible refine nThen ?_ | with_reducible refine nBlk ?_ | with_reducible refine wp_skip ?_ | with_reducible refine wp_block ?_ | with_reducible refine wp_exit ?_ | with_reducible refine xThen ?_ | with_reducible refine xHere ?_ | with_reducible refine xFar (by decide) ?_ | with_reducible refine wp_ret ?_ | with_reducible refine rThen ?_ | with_reducible refine rBlk ?_)
  repeat (first | with_reducible refine wp_seq ?_ | with_reducible refine nThen ?_ | with_reducible refine nBlk ?_ | with_reducible refine wp_skip ?_ | with_reducible refine wp_block ?_ | with_reducible refine wp_exit ?_ | with_reducible refine xThen ?_ | with_reducible refine xHere ?_ | with_reducible refine xFar (by decide) ?_ | with_reducible refine wp_ret ?_ | with_reducible refine rThen ?_ | with_reducible refine rBlk ?_)
  refine' reg_all hF ?_ mixed (by kernel_rfl) ?_
  rotate_left
  · repeat (first
        | exact Line.nil
        | (refine' Line.cons rfl (.no rfl rfl rfl rfl rfl rfl) ?_; rotate_left)
        | ((first | refine' Line.cons rfl (.run rfl rfl ?_) ?_ | refine' Line.cons rfl (.yes rfl rfl rfl rfl ?_) ?_)
           any_goals (first | exact cMove rfl rfl | exact cAssign rfl rfl | exact cNot rfl rfl | exact OpOk.b (c := false) (cNeq rfl rfl rfl) rfl | exact cLoadTab46 rfl (.t rfl) | exact cLoadTab83 rfl (.t rfl) | exact cCallR1 rfl (.t rfl) tOA (tabO_olds _ _ _) | exact cCallR1 rfl (.t rfl) tOC (tabO_olds _ _ _) | exact cCallH2 rfl (Has.c (.t rfl) tabO_tab) (.t rfl) tSA | exact cCallH2 rfl (Has.c (.t rfl) tabO_tab) (.t rfl) tSC | exact cPickT rfl rfl rfl | exact cPickF rfl rfl rfl | exact cLss rfl rfl rfl | exact cLeq rfl rfl rfl | exact cGtr rfl rfl rfl | exact cGeq rfl rfl rfl | exact cEql rfl rfl rfl | exact cNeq rfl rfl rfl | exact cExtract rfl rfl rfl)
           rotate_left))
  intro a w10 hF hb hN
  have hBs := hB.size
  replace hB := hB.trans (hb.mono hB.size)
  dsimp only [ext, Option.getD] at hF
  repeat (first | with_reducible refine wp_seq ?_ | with_reducible refine nThen ?_ | with_reducible refine nBlk ?_ | with_reducible refine wp_skip ?_ | with_reducible refine wp_block ?_ | with_reducible refine wp_exit ?_ | with_reducible refine xThen ?_ | with_reducible refine xHere ?_ | with_reducible refine xFar (by decide) ?_ | with_reducible refine wp_ret ?_ | with_reducible refine rThen ?_ | with_reducible refine rBlk ?_)
  refine cond_f hF rfl ?_
  repeat (first | with_reducible refine wp_seq ?_ | with_reducible refine nThen ?_ | with_reducible refine nBlk ?_ | with_reducible refine wp_skip ?_ | with_reducible refine wp_block ?_ | with_reducible refine wp_exit ?_ | with_reducible refine xThen ?_ | with_reducible refine xHere ?_ | with_reducible refine xFar (by decide) ?_ | with_reducible refine wp_ret ?_ | with_reducible refine rThen ?_ | with_reducible refine rBlk ?_)
  refine' reg_all hF ?_ mixed (by kernel_rfl) ?_
  rotate_left
  · repeat (first
        | exact Line.nil
        | (refine' Line.cons rfl (.no rfl rfl rfl rfl rfl rfl) ?_; rotate_left)
        | ((first | refine' Line.cons rfl (.run rfl rfl ?_) ?_ | refine' Line.cons rfl (.yes rfl rfl rfl rfl ?_) ?_)
           any_goals (first | exact cMove rfl rfl | exact cAssign rfl rfl | exact cNot rfl rfl | exact OpOk.b (c := false) (cNeq rfl rfl rfl) rfl | exact cPickT rfl rfl rfl | exact cPickF rfl rfl rfl | exact cLss rfl rfl rfl | exact cLeq rfl rfl rfl | exact cGtr rfl rfl rfl | exact cGeq rfl rfl rfl | exact cEql rfl rfl rfl | exact cNeq rfl rfl rfl | exact cExtract rfl rfl rfl)
           rotate_left))
  intro a w11 hF hb hN
  have hBs := hB.size
  replace hB := hB.trans (hb.mono hB.size)
  dsimp only [ext, Option.getD] at hF
  repeat (first | with_reducible refine wp_seq ?_ | with_reducible refine nThen ?_ | with_reducible refine nBlk ?_ | with_reducible refine wp_skip ?_ | with_reducible refine wp_block ?_ | with_reducible refine wp_exit ?_ | with_reducible refine xThen ?_ | with_reducible refine xHere ?_ | with_reducible refine xFar (by decide) ?_ | with_reducible refine wp_ret ?_ | with_reducible refine rThen ?_ | with_reducible refine rBlk ?_)
  refine cond_f hF rfl ?_
  repeat (first | with_reducible refine wp_seq ?_ | with_reducible refine nThen ?_ | with_reducible refine nBlk ?_ | with_reducible refine wp_skip ?_ | with_reducible refine wp_block ?_ | with_reducible refine wp_exit ?_ | with_reducible refine xThen ?_ | with_reducible refine xHere ?_ | with_reducible refine xFar (by decide) ?_ | with_reducible refine wp_ret ?_ | with_reducible refine rThen ?_ | with_reducible refine rBlk ?_)
  refine wp_mono (Q := fun e a w => e = .normal ∧ Fr 156 [(11, Ty.tabP 41 87 seed A), (13, Ty.tabP 52 105 seed A), (19, Ty.tabP 41 87 seed C), (21, Ty.tabP 52 105 seed C), (23, Ty.at_ 34 x.enc), (24, Ty.at_ 61 x.enc)] a w ∧ Below W.heap.size W w) ?_ ?_
  · have eX : (Value.agg (u8s x.l)).cells.toList = x.enc := u8s_list _
    have zS : (Value.agg (u8s x.l)).cells.size = (u8s Sm.zero.l).size := by show (u8s _).size = _; rw [u8s_size, u8s_size, Sm.len, Sm.len]
    have iS : (Try.prog.info? 34).map (·.size) = some (Value.agg (u8s x.l)).cells.size := by show _ = some (u8s _).size; rw [u8s_size, Sm.len]; exact sizeS
    have iR : (Try.prog.info? 61).map (·.size) = some (Value.agg (u8s x.l)).cells.size := by show _ = some (u8s _).size; rw [u8s_size, Sm.len]; exact sizeR
    replace hF := (hF.keep [9, 11, 13, 19, 21]).below (Below.refl _ _).drew
    dsimp only [pick, look] at hF
    replace hB := hB.trans ((Below.refl _ _).drew.mono hB.size)
    refine wp_region_any mixed ?_
    refine (show wpAny _ _ _ _ 6 _ _ _ from ?_)
    refine wpAny_ready (rs := [0, 1, 2, 3]) (by kernel_rfl) (by simp) ?_
    refine AllReady.cons rfl (fun K hK => ?_) ?_
    · refine anyOp hF hB rfl rfl rfl (cLoadSum rfl (.t rfl) Try.underlying33 sizeA) fun a w hF hB => hK _ _ ?_
      refine wpAny_ready (rs := [1, 2, 3]) (by kernel_rfl) (by simp) ?_
      refine AllReady.cons rfl (fun K hK => ?_) ?_
      · refine anyOp hF hB rfl rfl rfl (cLoadSum rfl (.t rfl) Try.underlying33 sizeA) fun a w hF hB => hK _ _ ?_
        refine wpAny_ready (rs := [2, 3]) (by kernel_rfl) (by simp) ?_
        refine AllReady.cons rfl (fun K hK => ?_) ?_
        · refine anyNew hF hB rfl rfl rfl rfl (run_alloc_i infoS) fun a w hF hB => hK _ _ ?_
          refine wpAny_ready (rs := [3]) (by kernel_rfl) (by simp) ?_
          refine AllReady.cons rfl (fun K hK => ?_) ?_
          · refine anyNew hF hB rfl rfl rfl rfl (run_alloc_i infoR1) fun a w hF hB => hK _ _ ?_
            refine wpAny_ready (rs := [4]) (by kernel_rfl) (by simp) ?_
            refine AllReady.cons rfl (fun K hK => ?_) ?_
            · refine anyStore hF hB rfl rfl rfl rfl rfl zS iS (u8s_one _) eX rfl fun a w hF hB => hK _ _ ?_
              refine wpAny_ready (rs := [5]) (by kernel_rfl) (by simp) ?_
              refine AllReady.cons rfl (fun K hK => ?_) ?_
              · refine anyStore hF hB rfl rfl rfl rfl rfl zS iR (u8s_one _) eX rfl fun a w hF hB => hK _ _ ?_
                refine wpAny_done (by kernel_rfl) ?_ _
                exact ⟨rfl, hF.keep [11, 13, 19, 21, 23, 24], hB⟩
              exact AllReady.nil
            exact AllReady.nil
          exact AllReady.nil
        refine AllReady.cons rfl (fun K hK => ?_) ?_
        · refine anyNew hF hB rfl rfl rfl rfl (run_alloc_i infoR1) fun a w hF hB => hK _ _ ?_
          refine wpAny_ready (rs := [2]) (by kernel_rfl) (by simp) ?_
          refine AllReady.cons rfl (fun K hK => ?_) ?_
          · refine anyNew hF hB rfl rfl rfl rfl (run_alloc_i infoS) fun a w hF hB => hK _ _ ?_
            refine wpAny_ready (rs := [4]) (by kernel_rfl) (by simp) ?_
            refine AllReady.cons rfl (fun K hK => ?_) ?_
            · refine anyStore hF hB rfl rfl rfl rfl rfl zS iS (u8s_one _) eX rfl fun a w hF hB => hK _ _ ?_
              refine wpAny_ready (rs := [5]) (by kernel_rfl) (by simp) ?_
              refine AllReady.cons rfl (fun K hK => ?_) ?_
              · refine anyStore hF hB rfl rfl rfl rfl rfl zS iR (u8s_one _) eX rfl fun a w hF hB => hK _ _ ?_
                refine wpAny_done (by kernel_rfl) ?_ _
                exact ⟨rfl, hF.keep [11, 13, 19, 21, 23, 24], hB⟩
              exact AllReady.nil
            exact AllReady.nil
          exact AllReady.nil
        exact AllReady.nil
      refine AllReady.cons rfl (fun K hK => ?_) ?_
      · refine anyNew hF hB rfl rfl rfl rfl (run_alloc_i infoS) fun a w hF hB => hK _ _ ?_
        refine wpAny_ready (rs := [1, 3]) (by kernel_rfl) (by simp) ?_
        refine AllReady.cons rfl (fun K hK => ?_) ?_
        · refine anyOp hF hB rfl rfl rfl (cLoadSum rfl (.t rfl) Try.underlying33 sizeA) fun a w hF hB => hK _ _ ?_
          refine wpAny_ready (rs := [3]) (by kernel_rfl) (by simp) ?_
          refine AllReady.cons rfl (fun K hK => ?_) ?_
          · refine anyNew hF hB rfl rfl rfl rfl (run_alloc_i infoR1) fun a w hF hB => hK _ _ ?_
            refine wpAny_ready (rs := [4]) (by kernel_rfl) (by simp) ?_
            refine AllReady.cons rfl (fun K hK => ?_) ?_
            · refine anyStore hF hB rfl rfl rfl rfl rfl zS iS (u8s_one _) eX rfl fun a w hF hB => hK _ _ ?_
              refine wpAny_ready (rs := [5]) (by kernel_rfl) (by simp) ?_
              refine AllReady.cons rfl (fun K hK => ?_) ?_
              · refine anyStore hF hB rfl rfl rfl rfl rfl zS iR (u8s_one _) eX rfl fun a w hF hB => hK _ _ ?_
                refine wpAny_done (by kernel_rfl) ?_ _
                exact ⟨rfl, hF.keep [11, 13, 19, 21, 23, 24], hB⟩
              exact AllReady.nil
            exact AllReady.nil
          exact AllReady.nil
        refine AllReady.cons rfl (fun K hK => ?_) ?_
        · refine anyNew hF hB rfl rfl rfl rfl (run_alloc_i infoR1) fun a w hF hB => hK _ _ ?_
          refine wpAny_ready (rs := [1, 4]) (by kernel_rfl) (by simp) ?_
          refine AllReady.cons rfl (fun K hK => ?_) ?_
          · refine anyOp hF hB rfl rfl rfl (cLoadSum rfl (.t rfl) Try.underlying33 sizeA) fun a w hF hB => hK _ _ ?_
            refine wpAny_ready (rs := [4]) (by kernel_rfl) (by simp) ?_
            refine AllReady.cons rfl (fun K hK => ?_) ?_
            · refine anyStore hF hB rfl rfl rfl rfl rfl zS iS (u8s_one _) eX rfl fun a w hF hB => hK _ _ ?_
              refine wpAny_ready (rs := [5]) (by kernel_rfl) (by simp) ?_
              refine AllReady.cons rfl (fun K hK => ?_) ?_
              · refine anyStore hF hB rfl rfl rfl rfl rfl zS iR (u8s_one _) eX rfl fun a w hF hB => hK _ _ ?_
                refine wpAny_done (by kernel_rfl) ?_ _
                exact ⟨rfl, hF.keep [11, 13, 19, 21, 23, 24], hB⟩
              exact AllReady.nil
            exact AllReady.nil
          refine AllReady.cons rfl (fun K hK => ?_) ?_
          · refine anyStore hF hB rfl rfl rfl rfl rfl zS iS (u8s_one _) eX rfl fun a w hF hB => hK _ _ ?_
            refine wpAny_ready (rs := [1]) (by kernel_rfl) (by simp) ?_
            refine AllReady.cons rfl (fun K hK => ?_) ?_
            · refine anyOp hF hB rfl rfl rfl (cLoadSum rfl (.t rfl) Try.underlying33 sizeA) fun a w hF hB => hK _ _ ?_
              refine wpAny_ready (rs := [5]) (by kernel_rfl) (by simp) ?_
              refine AllReady.cons rfl (fun K hK => ?_) ?_
              · refine anyStore hF hB rfl rfl rfl rfl rfl zS iR (u8s_one _) eX rfl fun a w hF hB => hK _ _ ?_
                refine wpAny_done (by kernel_rfl) ?_ _
                exact ⟨rfl, hF.keep [11, 13, 19, 21, 23, 24], hB⟩
              exact AllReady.nil
            exact AllReady.nil
          exact AllReady.nil
        exact AllReady.nil
      refine AllReady.cons rfl (fun K hK => ?_) ?_
      · refine anyNew hF hB rfl rfl rfl rfl (run_alloc_i infoR1) fun a w hF hB => hK _ _ ?_
        refine wpAny_ready (rs := [1, 2]) (by kernel_rfl) (by simp) ?_
        refine AllReady.cons rfl (fun K hK => ?_) ?_
        · refine anyOp hF hB rfl rfl rfl (cLoadSum rfl (.t rfl) Try.underlying33 sizeA) fun a w hF hB => hK _ _ ?_
          refine wpAny_ready (rs := [2]) (by kernel_rfl) (by simp) ?_
          refine AllReady.cons rfl (fun K hK => ?_) ?_
          · refine anyNew hF hB rfl rfl rfl rfl (run_alloc_i infoS) fun a w hF hB => hK _ _ ?_
            refine wpAny_ready (rs := [4]) (by kernel_rfl) (by simp) ?_
            refine AllReady.cons rfl (fun K hK => ?_) ?_
            · refine anyStore hF hB rfl rfl rfl rfl rfl zS iS (u8s_one _) eX rfl fun a w hF hB => hK _ _ ?_
              refine wpAny_ready (rs := [5]) (by kernel_rfl) (by simp) ?_
              refine AllReady.cons rfl (fun K hK => ?_) ?_
              · refine anyStore hF hB rfl rfl rfl rfl rfl zS iR (u8s_one _) eX rfl fun a w hF hB => hK _ _ ?_
                refine wpAny_done (by kernel_rfl) ?_ _
                exact ⟨rfl, hF.keep [11, 13, 19, 21, 23, 24], hB⟩
              exact AllReady.nil
            exact AllReady.nil
          exact AllReady.nil
        refine AllReady.cons rfl (fun K hK => ?_) ?_
        · refine anyNew hF hB rfl rfl rfl rfl (run_alloc_i infoS) fun a w hF hB => hK _ _ ?_
          refine wpAny_ready (rs := [1, 4]) (by kernel_rfl) (by simp) ?_
          refine AllReady.cons rfl (fun K hK => ?_) ?_
          · refine anyOp hF hB rfl rfl rfl (cLoadSum rfl (.t rfl) Try.underlying33 sizeA) fun a w hF hB => hK _ _ ?_
            refine wpAny_ready (rs := [4]) (by kernel_rfl) (by simp) ?_
            refine AllReady.cons rfl (fun K hK => ?_) ?_
            · refine anyStore hF hB rfl rfl rfl rfl rfl zS iS (u8s_one _) eX rfl fun a w hF hB => hK _ _ ?_
              refine wpAny_ready (rs := [5]) (by kernel_rfl) (by simp) ?_
              refine AllReady.cons rfl (fun K hK => ?_) ?_
              · refine anyStore hF hB rfl rfl rfl rfl rfl zS iR (u8s_one _) eX rfl fun a w hF hB => hK _ _ ?_
                refine wpAny_done (by kernel_rfl) ?_ _
                exact ⟨rfl, hF.keep [11, 13, 19, 21, 23, 24], hB⟩
              exact AllReady.nil
            exact AllReady.nil
          refine AllReady.cons rfl (fun K hK => ?_) ?_
          · refine anyStore hF hB rfl rfl rfl rfl rfl zS iS (u8s_one _) eX rfl fun a w hF hB => hK _ _ ?_
            refine wpAny_ready (rs := [1]) (by kernel_rfl) (by simp) ?_
            refine AllReady.cons rfl (fun K hK => ?_) ?_
            · refine anyOp hF hB rfl rfl rfl (cLoadSum rfl (.t rfl) Try.underlying33 sizeA) fun a w hF hB => hK _ _ ?_
              refine wpAny_ready (rs := [5]) (by kernel_rfl) (by simp) ?_
              refine AllReady.cons rfl (fun K hK => ?_) ?_
              · refine anyStore hF hB rfl rfl rfl rfl rfl zS iR (u8s_one _) eX rfl fun a w hF hB => hK _ _ ?_
                refine wpAny_done (by kernel_rfl) ?_ _
                exact ⟨rfl, hF.keep [11, 13, 19, 21, 23, 24], hB⟩
              exact AllReady.nil
            exact AllReady.nil
          exact AllReady.nil
        exact AllReady.nil
      exact AllReady.nil
    refine AllReady.cons rfl (fun K hK => ?_) ?_
    · refine anyOp hF hB rfl rfl rfl (cLoadSum rfl (.t rfl) Try.underlying33 sizeA) fun a w hF hB => hK _ _ ?_
      refine wpAny_ready (rs := [0, 2, 3]) (by kernel_rfl) (by simp) ?_
      refine AllReady.cons rfl (fun K hK => ?_) ?_
      · refine anyOp hF hB rfl rfl rfl (cLoadSum rfl (.t rfl) Try.underlying33 sizeA) fun a w hF hB => hK _ _ ?_
        refine wpAny_ready (rs := [2, 3]) (by kernel_rfl) (by simp) ?_
        refine AllReady.cons rfl (fun K hK => ?_) ?_
        · refine anyNew hF hB rfl rfl rfl rfl (run_alloc_i infoS) fun a w hF hB => hK _ _ ?_
          refine wpAny_ready (rs := [3]) (by kernel_rfl) (by simp) ?_
          refine AllReady.cons rfl (fun K hK => ?_) ?_
          · refine anyNew hF hB rfl rfl rfl rfl (run_alloc_i infoR1) fun a w hF hB => hK _ _ ?_
            refine wpAny_ready (rs := [4]) (by kernel_rfl) (by simp) ?_
            refine AllReady.cons rfl (fun K hK => ?_) ?_
            · refine anyStore hF hB rfl rfl rfl rfl rfl zS iS (u8s_one _) eX rfl fun a w hF hB => hK _ _ ?_
              refine wpAny_ready (rs := [5]) (by kernel_rfl) (by simp) ?_
              refine AllReady.cons rfl (fun K hK => ?_) ?_
              · refine anyStore hF hB rfl rfl rfl rfl rfl zS iR (u8s_one _) eX rfl fun a w hF hB => hK _ _ ?_
                refine wpAny_done (by kernel_rfl) ?_ _
                exact ⟨rfl, hF.keep [11, 13, 19, 21, 23, 24], hB⟩
              exact AllReady.nil
            exact AllReady.nil
          exact AllReady.nil
        refine AllReady.cons rfl (fun K hK => ?_) ?_
        · refine anyNew hF hB rfl rfl rfl rfl (run_alloc_i infoR1) fun a w hF hB => hK _ _ ?_
          refine wpAny_ready (rs := [2]) (by kernel_rfl) (by simp) ?_
          refine AllReady.cons rfl (fun K hK => ?_) ?_
          · refine anyNew hF hB rfl rfl rfl rfl (run_alloc_i infoS) fun a w hF hB => hK _ _ ?_
            refine wpAny_ready (rs := [4]) (by kernel_rfl) (by simp) ?_
            refine AllReady.cons rfl (fun K hK => ?_) ?_
            · refine anyStore hF hB rfl rfl rfl rfl rfl zS iS (u8s_one _) eX rfl fun a w hF hB => hK _ _ ?_
              refine wpAny_ready (rs := [5]) (by kernel_rfl) (by simp) ?_
              refine AllReady.cons rfl (fun K hK => ?_) ?_
              · refine anyStore hF hB rfl rfl rfl rfl rfl zS iR (u8s_one _) eX rfl fun a w hF hB => hK _ _ ?_
                refine wpAny_done (by kernel_rfl) ?_ _
                exact ⟨rfl, hF.keep [11, 13, 19, 21, 23, 24], hB⟩
              exact AllReady.nil
            exact AllReady.nil
          exact AllReady.nil
        exact AllReady.nil
      refine AllReady.cons rfl (fun K hK => ?_) ?_
      · refine anyNew hF hB rfl rfl rfl rfl (run_alloc_i infoS) fun a w hF hB => hK _ _ ?_
        refine wpAny_ready (rs := [0, 3]) (by kernel_rfl) (by simp) ?_
        refine AllReady.cons rfl (fun K hK => ?_) ?_
        · refine anyOp hF hB rfl rfl rfl (cLoadSum rfl (.t rfl) Try.underlying33 sizeA) fun a w hF hB => hK _ _ ?_
          refine wpAny_ready (rs := [3]) (by kernel_rfl) (by simp) ?_
          refine AllReady.cons rfl (fun K hK => ?_) ?_
          · refine anyNew hF hB rfl rfl rfl rfl (run_alloc_i infoR1) fun a w hF hB => hK _ _ ?_
            refine wpAny_ready (rs := [4]) (by kernel_rfl) (by simp) ?_
            refine AllReady.cons rfl (fun K hK => ?_) ?_
            · refine anyStore hF hB rfl rfl rfl rfl rfl zS iS (u8s_one _) eX rfl fun a w hF hB => hK _ _ ?_
              refine wpAny_ready (rs := [5]) (by kernel_rfl) (by simp) ?_
              refine AllReady.cons rfl (fun K hK => ?_) ?_
              · refine anyStore hF hB rfl rfl rfl rfl rfl zS iR (u8s_one _) eX rfl fun a w hF hB => hK _ _ ?_
                refine wpAny_done (by kernel_rfl) ?_ _
                exact ⟨rfl, hF.keep [11, 13, 19, 21, 23, 24], hB⟩
              exact AllReady.nil
            exact AllReady.nil
          exact AllReady.nil
        refine AllReady.cons rfl (fun K hK => ?_) ?_
        · refine anyNew hF hB rfl rfl rfl rfl (run_alloc_i infoR1) fun a w hF hB => hK _ _ ?_
          refine wpAny_ready (rs := [0]) (by kernel_rfl) (by simp) ?_
          refine AllReady.cons rfl (fun K hK => ?_) ?_
          · refine anyOp hF hB rfl rfl rfl (cLoadSum rfl (.t rfl) Try.underlying33 sizeA) fun a w hF hB => hK _ _ ?_
            refine wpAny_ready (rs := [4]) (by kernel_rfl) (by simp) ?_
            refine AllReady.cons rfl (fun K hK => ?_) ?_
            · refine anyStore hF hB rfl rfl rfl rfl rfl zS iS (u8s_one _) eX rfl fun a w hF hB => hK _ _ ?_
              refine wpAny_ready (rs := [5]) (by kernel_rfl) (by simp) ?_
              refine AllReady.cons rfl (fun K hK => ?_) ?_
              · refine anyStore hF hB rfl rfl rfl rfl rfl zS iR (u8s_one _) eX rfl fun a w hF hB => hK _ _ ?_
                refine wpAny_done (by kernel_rfl) ?_ _
                exact ⟨rfl, hF.keep [11, 13, 19, 21, 23, 24], hB⟩
              exact AllReady.nil
            exact AllReady.nil
          exact AllReady.nil
        exact AllReady.nil
      refine AllReady.cons rfl (fun K hK => ?_) ?_
      · refine anyNew hF hB rfl rfl rfl rfl (run_alloc_i infoR1) fun a w hF hB => hK _ _ ?_
        refine wpAny_ready (rs := [0, 2]) (by kernel_rfl) (by simp) ?_
        refine AllReady.cons rfl (fun K hK => ?_) ?_
        · refine anyOp hF hB rfl rfl rfl (cLoadSum rfl (.t rfl) Try.underlying33 sizeA) fun a w hF hB => hK _ _ ?_
          refine wpAny_ready (rs := [2]) (by kernel_rfl) (by simp) ?_
          refine AllReady.cons rfl (fun K hK => ?_) ?_
          · refine anyNew hF hB rfl rfl rfl rfl (run_alloc_i infoS) fun a w hF hB => hK _ _ ?_
            refine wpAny_ready (rs := [4]) (by kernel_rfl) (by simp) ?_
            refine AllReady.cons rfl (fun K hK => ?_) ?_
            · refine anyStore hF hB rfl rfl rfl rfl rfl zS iS (u8s_one _) eX rfl fun a w hF hB => hK _ _ ?_
              refine wpAny_ready (rs := [5]) (by kernel_rfl) (by simp) ?_
              refine AllReady.cons rfl (fun K hK => ?_) ?_
              · refine anyStore hF hB rfl rfl rfl rfl rfl zS iR (u8s_one _) eX rfl fun a w hF hB => hK _ _ ?_
                refine wpAny_done (by kernel_rfl) ?_ _
                exact ⟨rfl, hF.keep [11, 13, 19, 21, 23, 24], hB⟩
              exact AllReady.nil
            exact AllReady.nil
          exact AllReady.nil
        refine AllReady.cons rfl (fun K hK => ?_) ?_
        · refine anyNew hF hB rfl rfl rfl rfl (run_alloc_i infoS) fun a w hF hB => hK _ _ ?_
          refine wpAny_ready (rs := [0]) (by kernel_rfl) (by simp) ?_
          refine AllReady.cons rfl (fun K hK => ?_) ?_
          · refine anyOp hF hB rfl rfl rfl (cLoadSum rfl (.t rfl) Try.underlying33 sizeA) fun a w hF hB => hK _ _ ?_
            refine wpAny_ready (rs := [4]) (by kernel_rfl) (by simp) ?_
            refine AllReady.cons rfl (fun K hK => ?_) ?_
            · refine anyStore hF hB rfl rfl rfl rfl rfl zS iS (u8s_one _) eX rfl fun a w hF hB => hK _ _ ?_
              refine wpAny_ready (rs := [5]) (by kernel_rfl) (by simp) ?_
              refine AllReady.cons rfl (fun K hK => ?_) ?_
              · refine anyStore hF hB rfl rfl rfl rfl rfl zS iR (u8s_one _) eX rfl fun a w hF hB => hK _ _ ?_
                refine wpAny_done (by kernel_rfl) ?_ _
                exact ⟨rfl, hF.keep [11, 13, 19, 21, 23, 24], hB⟩
              exact AllReady.nil
            exact AllReady.nil
          exact AllReady.nil
        exact AllReady.nil
      exact AllReady.nil
    refine AllReady.cons rfl (fun K hK => ?_) ?_
    · refine anyNew hF hB rfl rfl rfl rfl (run_alloc_i infoS) fun a w hF hB => hK _ _ ?_
      refine wpAny_ready (rs := [0, 1, 3]) (by kernel_rfl) (by simp) ?_
      refine AllReady.cons rfl (fun K hK => ?_) ?_
      · refine anyOp hF hB rfl rfl rfl (cLoadSum rfl (.t rfl) Try.underlying33 sizeA) fun a w hF hB => hK _ _ ?_
        refine wpAny_ready (rs := [1, 3]) (by kernel_rfl) (by simp) ?_
        refine AllReady.cons rfl (fun K hK => ?_) ?_
        · refine anyOp hF hB rfl rfl rfl (cLoadSum rfl (.t rfl) Try.underlying33 sizeA) fun a w hF hB => hK _ _ ?_
          refine wpAny_ready (rs := [3]) (by kernel_rfl) (by simp) ?_
          refine AllReady.cons rfl (fun K hK => ?_) ?_
          · refine anyNew hF hB rfl rfl rfl rfl (run_alloc_i infoR1) fun a w hF hB => hK _ _ ?_
            refine wpAny_ready (rs := [4]) (by kernel_rfl) (by simp) ?_
            refine AllReady.cons rfl (fun K hK => ?_) ?_
            · refine anyStore hF hB rfl rfl rfl rfl rfl zS iS (u8s_one _) eX rfl fun a w hF hB => hK _ _ ?_
              refine wpAny_ready (rs := [5]) (by kernel_rfl) (by simp) ?_
              refine AllReady.cons rfl (fun K hK => ?_) ?_
              · refine anyStore hF hB rfl rfl rfl rfl rfl zS iR (u8s_one _) eX rfl fun a w hF hB => hK _ _ ?_
                refine wpAny_done (by kernel_rfl) ?_ _
                exact ⟨rfl, hF.keep [11, 13, 19, 21, 23, 24], hB⟩
              exact AllReady.nil
            exact AllReady.nil
          exact AllReady.nil
        refine AllReady.cons rfl (fun K hK => ?_) ?_
        · refine anyNew hF hB rfl rfl rfl rfl (run_alloc_i infoR1) fun a w hF hB => hK _ _ ?_
          refine wpAny_ready (rs := [1, 4]) (by kernel_rfl) (by simp) ?_
          refine AllReady.cons rfl (fun K hK => ?_) ?_
          · refine anyOp hF hB rfl rfl rfl (cLoadSum rfl (.t rfl) Try.underlying33 sizeA) fun a w hF hB => hK _ _ ?_
            refine wpAny_ready (rs := [4]) (by kernel_rfl) (by simp) ?_
            refine AllReady.cons rfl (fun K hK => ?_) ?_
            · refine anyStore hF hB rfl rfl rfl rfl rfl zS iS (u8s_one _) eX rfl fun a w hF hB => hK _ _ ?_
              refine wpAny_ready (rs := [5]) (by kernel_rfl) (by simp) ?_
              refine AllReady.cons rfl (fun K hK => ?_) ?_
              · refine anyStore hF hB rfl rfl rfl rfl rfl zS iR (u8s_one _) eX rfl fun a w hF hB => hK _ _ ?_
                refine wpAny_done (by kernel_rfl) ?_ _
                exact ⟨rfl, hF.keep [11, 13, 19, 21, 23, 24], hB⟩
              exact AllReady.nil
            exact AllReady.nil
          refine AllReady.cons rfl (fun K hK => ?_) ?_
          · refine anyStore hF hB rfl rfl rfl rfl rfl zS iS (u8s_one _) eX rfl fun a w hF hB => hK _ _ ?_
            refine wpAny_ready (rs := [1]) (by kernel_rfl) (by simp) ?_
            refine AllReady.cons rfl (fun K hK => ?_) ?_
            · refine anyOp hF hB rfl rfl rfl (cLoadSum rfl (.t rfl) Try.underlying33 sizeA) fun a w hF hB => hK _ _ ?_
              refine wpAny_ready (rs := [5]) (by kernel_rfl) (by simp) ?_
              refine AllReady.cons rfl (fun K hK => ?_) ?_
              · refine anyStore hF hB rfl rfl rfl rfl rfl zS iR (u8s_one _) eX rfl fun a w hF hB => hK _ _ ?_
                refine wpAny_done (by kernel_rfl) ?_ _
                exact ⟨rfl, hF.keep [11, 13, 19, 21, 23, 24], hB⟩
              exact AllReady.nil
            exact AllReady.nil
          exact AllReady.nil
        exact AllReady.nil
      refine AllReady.cons rfl (fun K hK => ?_) ?_
      · refine anyOp hF hB rfl rfl rfl (cLoadSum rfl (.t rfl) Try.underlying33 sizeA) fun a w hF hB => hK _ _ ?_
        refine wpAny_ready (rs := [0, 3]) (by kernel_rfl) (by simp) ?_
        refine AllReady.cons rfl (fun K hK => ?_) ?_
        · refine anyOp hF hB rfl rfl rfl (cLoadSum rfl (.t rfl) Try.underlying33 sizeA) fun a w hF hB => hK _ _ ?_
          refine wpAny_ready (rs := [3]) (by kernel_rfl) (by simp) ?_
          refine AllReady.cons rfl (fun K hK => ?_) ?_
          · refine anyNew hF hB rfl rfl rfl rfl (run_alloc_i infoR1) fun a w hF hB => hK _ _ ?_
            refine wpAny_ready (rs := [4]) (by kernel_rfl) (by simp) ?_
            refine AllReady.cons rfl (fun K hK => ?_) ?_
            · refine anyStore hF hB rfl rfl rfl rfl rfl zS iS (u8s_one _) eX rfl fun a w hF hB => hK _ _ ?_
              refine wpAny_ready (rs := [5]) (by kernel_rfl) (by simp) ?_
              refine AllReady.cons rfl (fun K hK => ?_) ?_
              · refine anyStore hF hB rfl rfl rfl rfl rfl zS iR (u8s_one _) eX rfl fun a w hF hB => hK _ _ ?_
                refine wpAny_done (by kernel_rfl) ?_ _
                exact ⟨rfl, hF.keep [11, 13, 19, 21, 23, 24], hB⟩
              exact AllReady.nil
            exact AllReady.nil
          exact AllReady.nil
        refine AllReady.cons rfl (fun K hK => ?_) ?_
        · refine anyNew hF hB rfl rfl rfl rfl (run_alloc_i infoR1) fun a w hF hB => hK _ _ ?_
          refine wpAny_ready (rs := [0]) (by kernel_rfl) (by simp) ?_
          refine AllReady.cons rfl (fun K hK => ?_) ?_
          · refine anyOp hF hB rfl rfl rfl (cLoadSum rfl (.t rfl) Try.underlying33 sizeA) fun a w hF hB => hK _ _ ?_
            refine wpAny_ready (rs := [4]) (by kernel_rfl) (by simp) ?_
            refine AllReady.cons rfl (fun K hK => ?_) ?_
            · refine anyStore hF hB rfl rfl rfl rfl rfl zS iS (u8s_one _) eX rfl fun a w hF hB => hK _ _ ?_
              refine wpAny_ready (rs := [5]) (by kernel_rfl) (by simp) ?_
              refine AllReady.cons rfl (fun K hK => ?_) ?_
              · refine anyStore hF hB rfl rfl rfl rfl rfl zS iR (u8s_one _) eX rfl fun a w hF hB => hK _ _ ?_
                refine wpAny_done (by kernel_rfl) ?_ _
                exact ⟨rfl, hF.keep [11, 13, 19, 21, 23, 24], hB⟩
              exact AllReady.nil
            exact AllReady.nil
          exact AllReady.nil
        exact AllReady.nil
      refine AllReady.cons rfl (fun K hK => ?_) ?_
      · refine anyNew hF hB rfl rfl rfl rfl (run_alloc_i infoR1) fun a w hF hB => hK _ _ ?_
        refine wpAny_ready (rs := [0, 1]) (by kernel_rfl) (by simp) ?_
        refine AllReady.cons rfl (fun K hK => ?_) ?_
        · refine anyOp hF hB rfl rfl rfl (cLoadSum rfl (.t rfl) Try.underlying33 sizeA) fun a w hF hB => hK _ _ ?_
          refine wpAny_ready (rs := [1, 4]) (by kernel_rfl) (by simp) ?_
          refine AllReady.cons rfl (fun K hK => ?_) ?_
          · refine anyOp hF hB rfl rfl rfl (cLoadSum rfl (.t rfl) Try.underlying33 sizeA) fun a w hF hB => hK _ _ ?_
            refine wpAny_ready (rs := [4]) (by kernel_rfl) (by simp) ?_
            refine AllReady.cons rfl (fun K hK => ?_) ?_
            · refine anyStore hF hB rfl rfl rfl rfl rfl zS iS (u8s_one _) eX rfl fun a w hF hB => hK _ _ ?_
              refine wpAny_ready (rs := [5]) (by kernel_rfl) (by simp) ?_
              refine AllReady.cons rfl (fun K hK => ?_) ?_
              · refine anyStore hF hB rfl rfl rfl rfl rfl zS iR (u8s_one _) eX rfl fun a w hF hB => hK _ _ ?_
                refine wpAny_done (by kernel_rfl) ?_ _
                exact ⟨rfl, hF.keep [11, 13, 19, 21, 23, 24], hB⟩
              exact AllReady.nil
            exact AllReady.nil
          refine AllReady.cons rfl (fun K hK => ?_) ?_
          · refine anyStore hF hB rfl rfl rfl rfl rfl zS iS (u8s_one _) eX rfl fun a w hF hB => hK _ _ ?_
            refine wpAny_ready (rs := [1]) (by kernel_rfl) (by simp) ?_
            refine AllReady.cons rfl (fun K hK => ?_) ?_
            · refine anyOp hF hB rfl rfl rfl (cLoadSum rfl (.t rfl) Try.underlying33 sizeA) fun a w hF hB => hK _ _ ?_
              refine wpAny_ready (rs := [5]) (by kernel_rfl) (by simp) ?_
              refine AllReady.cons rfl (fun K hK => ?_) ?_
              · refine anyStore hF hB rfl rfl rfl rfl rfl zS iR (u8s_one _) eX rfl fun a w hF hB => hK _ _ ?_
                refine wpAny_done (by kernel_rfl) ?_ _
                exact ⟨rfl, hF.keep [11, 13, 19, 21, 23, 24], hB⟩
              exact AllReady.nil
            exact AllReady.nil
          exact AllReady.nil
        refine AllReady.cons rfl (fun K hK => ?_) ?_
        · refine anyOp hF hB rfl rfl rfl (cLoadSum rfl (.t rfl) Try.underlying33 sizeA) fun a w hF hB => hK _ _ ?_
          refine wpAny_ready (rs := [0]) (by kernel_rfl) (by simp) ?_
          refine AllReady.cons rfl (fun K hK => ?_) ?_
          · refine anyOp hF hB rfl rfl rfl (cLoadSum rfl (.t rfl) Try.underlying33 sizeA) fun a w hF hB => hK _ _ ?_
            refine wpAny_ready (rs := [4]) (by kernel_rfl) (by simp) ?_
            refine AllReady.cons rfl (fun K hK => ?_) ?_
            · refine anyStore hF hB rfl rfl rfl rfl rfl zS iS (u8s_one _) eX rfl fun a w hF hB => hK _ _ ?_
              refine wpAny_ready (rs := [5]) (by kernel_rfl) (by simp) ?_
              refine AllReady.cons rfl (fun K hK => ?_) ?_
              · refine anyStore hF hB rfl rfl rfl rfl rfl zS iR (u8s_one _) eX rfl fun a w hF hB => hK _ _ ?_
                refine wpAny_done (by kernel_rfl) ?_ _
                exact ⟨rfl, hF.keep [11, 13, 19, 21, 23, 24], hB⟩
              exact AllReady.nil
            exact AllReady.nil
          exact AllReady.nil
        exact AllReady.nil
      exact AllReady.nil
    refine AllReady.cons rfl (fun K hK => ?_) ?_
    · refine anyNew hF hB rfl rfl rfl rfl (run_alloc_i infoR1) fun a w hF hB => hK _ _ ?_
      refine wpAny_ready (rs := [0, 1, 2]) (by kernel_rfl) (by simp) ?_
      refine AllReady.cons rfl (fun K hK => ?_) ?_
      · refine anyOp hF hB rfl rfl rfl (cLoadSum rfl (.t rfl) Try.underlying33 sizeA) fun a w hF hB => hK _ _ ?_
        refine wpAny_ready (rs := [1, 2]) (by kernel_rfl) (by simp) ?_
        refine AllReady.cons rfl (fun K hK => ?_) ?_
        · refine anyOp hF hB rfl rfl rfl (cLoadSum rfl (.t rfl) Try.underlying33 sizeA) fun a w hF hB => hK _ _ ?_
          refine wpAny_ready (rs := [2]) (by kernel_rfl) (by simp) ?_
          refine AllReady.cons rfl (fun K hK => ?_) ?_
          · refine anyNew hF hB rfl rfl rfl rfl (run_alloc_i infoS) fun a w hF hB => hK _ _ ?_
            refine wpAny_ready (rs := [4]) (by kernel_rfl) (by simp) ?_
            refine AllReady.cons rfl (fun K hK => ?_) ?_
            · refine anyStore hF hB rfl rfl rfl rfl rfl zS iS (u8s_one _) eX rfl fun a w hF hB => hK _ _ ?_
              refine wpAny_ready (rs := [5]) (by kernel_rfl) (by simp) ?_
              refine AllReady.cons rfl (fun K hK => ?_) ?_
              · refine anyStore hF hB rfl rfl rfl rfl rfl zS iR (u8s_one _) eX rfl fun a w hF hB => hK _ _ ?_
                refine wpAny_done (by kernel_rfl) ?_ _
                exact ⟨rfl, hF.keep [11, 13, 19, 21, 23, 24], hB⟩
              exact AllReady.nil
            exact AllReady.nil
          exact AllReady.nil
        refine AllReady.cons rfl (fun K hK => ?_) ?_
        · refine anyNew hF hB rfl rfl rfl rfl (run_alloc_i infoS) fun a w hF hB => hK _ _ ?_
          refine wpAny_ready (rs := [1, 4]) (by kernel_rfl) (by simp) ?_
          refine AllReady.cons rfl (fun K hK => ?_) ?_
          · refine anyOp hF hB rfl rfl rfl (cLoadSum rfl (.t rfl) Try.underlying33 sizeA) fun a w hF hB => hK _ _ ?_
            refine wpAny_ready (rs := [4]) (by kernel_rfl) (by simp) ?_
            refine AllReady.cons rfl (fun K hK => ?_) ?_
            · refine anyStore hF hB rfl rfl rfl rfl rfl zS iS (u8s_one _) eX rfl fun a w hF hB => hK _ _ ?_
              refine wpAny_ready (rs := [5]) (by kernel_rfl) (by simp) ?_
              refine AllReady.cons rfl (fun K hK => ?_) ?_
              · refine anyStore hF hB rfl rfl rfl rfl rfl zS iR (u8s_one _) eX rfl fun a w hF hB => hK _ _ ?_
                refine wpAny_done (by kernel_rfl) ?_ _
                exact ⟨rfl, hF.keep [11, 13, 19, 21, 23, 24], hB⟩
              exact AllReady.nil
            exact AllReady.nil
          refine AllReady.cons rfl (fun K hK => ?_) ?_
          · refine anyStore hF hB rfl rfl rfl rfl rfl zS iS (u8s_one _) eX rfl fun a w hF hB => hK _ _ ?_
            refine wpAny_ready (rs := [1]) (by kernel_rfl) (by simp) ?_
            refine AllReady.cons rfl (fun K hK => ?_) ?_
            · refine anyOp hF hB rfl rfl rfl (cLoadSum rfl (.t rfl) Try.underlying33 sizeA) fun a w hF hB => hK _ _ ?_
              refine wpAny_ready (rs := [5]) (by kernel_rfl) (by simp) ?_
              refine AllReady.cons rfl (fun K hK => ?_) ?_
              · refine anyStore hF hB rfl rfl rfl rfl rfl zS iR (u8s_one _) eX rfl fun a w hF hB => hK _ _ ?_
                refine wpAny_done (by kernel_rfl) ?_ _
                exact ⟨rfl, hF.keep [11, 13, 19, 21, 23, 24], hB⟩
              exact AllReady.nil
            exact AllReady.nil
          exact AllReady.nil
        exact AllReady.nil
      refine AllReady.cons rfl (fun K hK => ?_) ?_
      · refine anyOp hF hB rfl rfl rfl (cLoadSum rfl (.t rfl) Try.underlying33 sizeA) fun a w hF hB => hK _ _ ?_
        refine wpAny_ready (rs := [0, 2]) (by kernel_rfl) (by simp) ?_
        refine AllReady.cons rfl (fun K hK => ?_) ?_
        · refine anyOp hF hB rfl rfl rfl (cLoadSum rfl (.t rfl) Try.underlying33 sizeA) fun a w hF hB => hK _ _ ?_
          refine wpAny_ready (rs := [2]) (by kernel_rfl) (by simp) ?_
          refine AllReady.cons rfl (fun K hK => ?_) ?_
          · refine anyNew hF hB rfl rfl rfl rfl (run_alloc_i infoS) fun a w hF hB => hK _ _ ?_
            refine wpAny_ready (rs := [4]) (by kernel_rfl) (by simp) ?_
            refine AllReady.cons rfl (fun K hK => ?_) ?_
            · refine anyStore hF hB rfl rfl rfl rfl rfl zS iS (u8s_one _) eX rfl fun a w hF hB => hK _ _ ?_
              refine wpAny_ready (rs := [5]) (by kernel_rfl) (by simp) ?_
              refine AllReady.cons rfl (fun K hK => ?_) ?_
              · refine anyStore hF hB rfl rfl rfl rfl rfl zS iR (u8s_one _) eX rfl fun a w hF hB => hK _ _ ?_
                refine wpAny_done (by kernel_rfl) ?_ _
                exact ⟨rfl, hF.keep [11, 13, 19, 21, 23, 24], hB⟩
              exact AllReady.nil
            exact AllReady.nil
          exact AllReady.nil
        refine AllReady.cons rfl (fun K hK => ?_) ?_
        · refine anyNew hF hB rfl rfl rfl rfl (run_alloc_i infoS) fun a w hF hB => hK _ _ ?_
          refine wpAny_ready (rs := [0]) (by kernel_rfl) (by simp) ?_
          refine AllReady.cons rfl (fun K hK => ?_) ?_
          · refine anyOp hF hB rfl rfl rfl (cLoadSum rfl (.t rfl) Try.underlying33 sizeA) fun a w hF hB => hK _ _ ?_
            refine wpAny_ready (rs := [4]) (by kernel_rfl) (by simp) ?_
            refine AllReady.cons rfl (fun K hK => ?_) ?_
            · refine anyStore hF hB rfl rfl rfl rfl rfl zS iS (u8s_one _) eX rfl fun a w hF hB => hK _ _ ?_
              refine wpAny_ready (rs := [5]) (by kernel_rfl) (by simp) ?_
              refine AllReady.cons rfl (fun K hK => ?_) ?_
              · refine anyStore hF hB rfl rfl rfl rfl rfl zS iR (u8s_one _) eX rfl fun a w hF hB => hK _ _ ?_
                refine wpAny_done (by kernel_rfl) ?_ _
                exact ⟨rfl, hF.keep [11, 13, 19, 21, 23, 24], hB⟩
              exact AllReady.nil
            exact AllReady.nil
          exact AllReady.nil
        exact AllReady.nil
      refine AllReady.cons rfl (fun K hK => ?_) ?_
      · refine anyNew hF hB rfl rfl rfl rfl (run_alloc_i infoS) fun a w hF hB => hK _ _ ?_
        refine wpAny_ready (rs := [0, 1]) (by kernel_rfl) (by simp) ?_
        refine AllReady.cons rfl (fun K hK => ?_) ?_
        · refine anyOp hF hB rfl rfl rfl (cLoadSum rfl (.t rfl) Try.underlying33 sizeA) fun a w hF hB => hK _ _ ?_
          refine wpAny_ready (rs := [1, 4]) (by kernel_rfl) (by simp) ?_
          refine AllReady.cons rfl (fun K hK => ?_) ?_
          · refine anyOp hF hB rfl rfl rfl (cLoadSum rfl (.t rfl) Try.underlying33 sizeA) fun a w hF hB => hK _ _ ?_
            refine wpAny_ready (rs := [4]) (by kernel_rfl) (by simp) ?_
            refine AllReady.cons rfl (fun K hK => ?_) ?_
            · refine anyStore hF hB rfl rfl rfl rfl rfl zS iS (u8s_one _) eX rfl fun a w hF hB => hK _ _ ?_
              refine wpAny_ready (rs := [5]) (by kernel_rfl) (by simp) ?_
              refine AllReady.cons rfl (fun K hK => ?_) ?_
              · refine anyStore hF hB rfl rfl rfl rfl rfl zS iR (u8s_one _) eX rfl fun a w hF hB => hK _ _ ?_
                refine wpAny_done (by kernel_rfl) ?_ _
                exact ⟨rfl, hF.keep [11, 13, 19, 21, 23, 24], hB⟩
              exact AllReady.nil
            exact AllReady.nil
          refine AllReady.cons rfl (fun K hK => ?_) ?_
          · refine anyStore hF hB rfl rfl rfl rfl rfl zS iS (u8s_one _) eX rfl fun a w hF hB => hK _ _ ?_
            refine wpAny_ready (rs := [1]) (by kernel_rfl) (by simp) ?_
            refine AllReady.cons rfl (fun K hK => ?_) ?_
            · refine anyOp hF hB rfl rfl rfl (cLoadSum rfl (.t rfl) Try.underlying33 sizeA) fun a w hF hB => hK _ _ ?_
              refine wpAny_ready (rs := [5]) (by kernel_rfl) (by simp) ?_
              refine AllReady.cons rfl (fun K hK => ?_) ?_
              · refine anyStore hF hB rfl rfl rfl rfl rfl zS iR (u8s_one _) eX rfl fun a w hF hB => hK _ _ ?_
                refine wpAny_done (by kernel_rfl) ?_ _
                exact ⟨rfl, hF.keep [11, 13, 19, 21, 23, 24], hB⟩
              exact AllReady.nil
            exact AllReady.nil
          exact AllReady.nil
        refine AllReady.cons rfl (fun K hK => ?_) ?_
        · refine anyOp hF hB rfl rfl rfl (cLoadSum rfl (.t rfl) Try.underlying33 sizeA) fun a w hF hB => hK _ _ ?_
          refine wpAny_ready (rs := [0]) (by kernel_rfl) (by simp) ?_
          refine AllReady.cons rfl (fun K hK => ?_) ?_
          · refine anyOp hF hB rfl rfl rfl (cLoadSum rfl (.t rfl) Try.underlying33 sizeA) fun a w hF hB => hK _ _ ?_
            refine wpAny_ready (rs := [4]) (by kernel_rfl) (by simp) ?_
            refine AllReady.cons rfl (fun K hK => ?_) ?_
            · refine anyStore hF hB rfl rfl rfl rfl rfl zS iS (u8s_one _) eX rfl fun a w hF hB => hK _ _ ?_
              refine wpAny_ready (rs := [5]) (by kernel_rfl) (by simp) ?_
              refine AllReady.cons rfl (fun K hK => ?_) ?_
              · refine anyStore hF hB rfl rfl rfl rfl rfl zS iR (u8s_one _) eX rfl fun a w hF hB => hK _ _ ?_
                refine wpAny_done (by kernel_rfl) ?_ _
                exact ⟨rfl, hF.keep [11, 13, 19, 21, 23, 24], hB⟩
              exact AllReady.nil
            exact AllReady.nil
          exact AllReady.nil
        exact AllReady.nil
      exact AllReady.nil
    exact AllReady.nil
  clear hF hB
  rintro e a w14 ⟨rfl, hF, hB⟩
  repeat (first | with_reducible refine wp_seq ?_ | with_reducible refine nThen ?_ | with_reducible refine nBlk ?_ | with_reducible refine wp_skip ?_ | with_reducible refine wp_block ?_ | with_reducible refine wp_exit ?_ | with_reducible refine xThen ?_ | with_reducible refine xHere ?_ | with_reducible refine xFar (by decide) ?_ | with_reducible refine wp_ret ?_ | with_reducible refine rThen ?_ | with_reducible refine rBlk ?_)
  refine' reg_all hF ?_ mixed (by kernel_rfl) ?_
  rotate_left
  · repeat (first
        | exact Line.nil
        | (refine' Line.cons rfl (.no rfl rfl rfl rfl rfl rfl) ?_; rotate_left)
        | ((first | refine' Line.cons rfl (.run rfl rfl ?_) ?_ | refine' Line.cons rfl (.yes rfl rfl rfl rfl ?_) ?_)
           any_goals (first | exact cMove rfl rfl | exact cAssign rfl rfl | exact cNot rfl rfl | exact cLoadTab46 rfl (.t rfl) | exact cLoadTab83 rfl (.t rfl) | exact cLoadSum rfl (.t rfl) Try.underlying34 sizeS | exact cLoadSum rfl (.t rfl) Try.underlying61 sizeR | exact cCallR2 rfl (.t rfl) (.t rfl) u1 (tabO_olds _ _ _) | exact cCallR2 rfl (.t rfl) (.t rfl) u2 (tabO_olds _ _ _) | exact cCallR3 rfl (.t rfl) (.t rfl) (.t rfl) u3 (tabO_olds _ _ _) | exact cCallR3 rfl (.t rfl) (.t rfl) (.t rfl) u4 (tabO_olds _ _ _) | exact cCallR1 rfl (Has.c (.t rfl) tabO_tab) tO1 (tabO_olds _ _ _) | exact cCallR1 rfl (Has.c (.t rfl) tabO_tab) tO2 (tabO_olds _ _ _) | exact cCallH2 rfl (Has.c (.t rfl) tabO_tab) (Has.c (.t rfl) tabO_tab) tS1 | exact cCallH2 rfl (Has.c (.t rfl) tabO_tab) (Has.c (.t rfl) tabO_tab) tS2 | exact cCall1 rfl rfl z1 | exact cCall1 rfl rfl z2 | exact cCall1 rfl rfl n1 | exact cCall1 rfl rfl n2 | exact cCall1 rfl rfl g1 | exact OpOk.b (c := true) (cEqlBool rfl rfl rfl Try.underlying4) (beq_self_eq_true _) | exact OpOk.b (c := true) (cEql rfl rfl rfl) (decide_eq_true rfl) | exact cPickT rfl rfl rfl | exact cPickF rfl rfl rfl | exact cLss rfl rfl rfl | exact cLeq rfl rfl rfl | exact cGtr rfl rfl rfl | exact cGeq rfl rfl rfl | exact cEql rfl rfl rfl | exact cNeq rfl rfl rfl | exact cExtract rfl rfl rfl)
           rotate_left))
  intro a w15 hF hb hN
  have hBs := hB.size
  replace hB := hB.trans (hb.mono hB.size)
  dsimp only [ext, Option.getD] at hF
  repeat (first | with_reducible refine wp_seq ?_ | with_reducible refine nThen ?_ | with_reducible refine nBlk ?_ | with_reducible refine wp_skip ?_ | with_reducible refine wp_block ?_ | with_reducible refine wp_exit ?_ | with_reducible refine xThen ?_ | with_reducible refine xHere ?_ | with_reducible refine xFar (by decide) ?_ | with_reducible refine wp_ret ?_ | with_reducible refine rThen ?_ | with_reducible refine rBlk ?_)
  refine ret1 hF rfl rfl fun z hz => ?_
  exact ⟨by rw [show z = .bool true from hz], hB⟩
end Go.Proofs.Ytmlbkcpmgcjblaa

/- From a row's reading of an argument to what a walk takes: slices of bytes; whole numbers. -/
namespace Go.Proofs.Ytmlbkcpmgcjblaa
open Go.RowKit Go.ChangeShapes Go.WideShapes

theorem nat_of_wf {k : IntKind} {n : Int} (h : (Lit.int k n).wf = true) : k.min ≤ n ∧ n ≤ k.max := by
  simpa [Lit.wf] using h

end Go.Proofs.Ytmlbkcpmgcjblaa

/- From a row's reading of an argument to what a walk takes: whole numbers in a slice; sums of thirty-two bytes. -/
namespace Go.Proofs.Ytmlbkcpmgcjblaa
open Go.RowKit Go.ChangeShapes Go.WideShapes

theorem okWide_arr {P : Program} {w : World} {r : Reach} {base n : Nat} {t e : TypeId} {v : Value} (ht : P.underlying t = some (.array n e)) (h : Value.okWide P w r base t v) : ∃ cs, v = .agg cs ∧ cs.size = P.cellsOf t := by
  unfold Value.okWide at h
  rw [ht] at h
  obtain ⟨cs, h1, h2, _⟩ := h
  exact ⟨cs, h1, h2⟩

theorem take1_drop {α : Type} {l : List α} {i : Nat} {v : α} (h : (l.drop i).take 1 = [v]) : l[i]? = some v := by
  have h1 : ((l.drop i).take 1)[0]? = some v := by rw [h]; rfl
  rw [List.getElem?_take, if_pos (by omega), List.getElem?_drop] at h1
  simpa using h1

/-- Thirty-two cells that read as an array of bytes are a sum. -/
theorem sm_of_cells {H : Type} {enc : TypeId × Value → H} {P : Program} {W : World} {base : Nat} {sp : Nat → Bool} {held : Bool} {t e : TypeId} {fuel : Nat} {cs : List Value} {x : DataW H × List MemPlace}
    (ht : P.underlying t = some (.array 32 e)) (he : P.underlying e = some (.int .u8)) (hC : P.cellsOf t = 32) (hc : P.cellsOf e = 1) (h : DataW.trod enc P W base sp held fuel t cs = some x) :
    ∃ s : Sm, cs = s.enc := by
  obtain ⟨xs, m, _, _, hlen, hxl, hi⟩ := DataW.trod_array ht h
  rw [hC] at hlen
  have hcell : ∀ i, i < 32 → ∃ n : Nat, cs[i]? = some (bv n) ∧ n < 256 := fun i hlt => by
    have h1 := hi i hlt
    rw [hc, Nat.mul_one, List.getElem?_eq_getElem (by omega)] at h1
    obtain ⟨n, h2, _, hw⟩ := DataW.trod_int he h1
    have hb := nat_of_wf hw
    simp only [IntKind.min, IntKind.max, IntKind.signed, IntKind.bits] at hb
    obtain ⟨k, rfl⟩ := Int.eq_ofNat_of_zero_le (show 0 ≤ n by simpa using hb.1)
    exact ⟨k, take1_drop h2, by have := hb.2; simp at this; omega⟩
  let f : Value → Nat := fun v => match v with | .int _ n => n.toNat | _ => 0
  have hfb : ∀ n : Nat, f (bv n) = n := fun n => by show (n : Int).toNat = n; omega
  refine ⟨⟨cs.map f, by simpa using hlen, ?_⟩, ?_⟩
  · intro b hb
    obtain ⟨v, hv, rfl⟩ := List.mem_map.1 hb
    obtain ⟨i, hiv⟩ := List.getElem?_of_mem hv
    obtain ⟨n, h1, h2⟩ := hcell i (by have := (List.getElem?_eq_some_iff.1 hiv).1; omega)
    rw [hiv] at h1
    injection h1 with h1
    rw [h1, hfb]; exact h2
  · unfold Sm.enc
    apply List.ext_getElem?
    intro i
    rw [List.getElem?_map, List.getElem?_map]
    by_cases hlt : i < 32
    · obtain ⟨n, h1, _⟩ := hcell i hlt
      rw [h1]
      simp only [Option.map_some, hfb]
    · rw [List.getElem?_eq_none (by omega)]; rfl
theorem row_sm {H : Type} {enc : TypeId × Value → H} {P : Program} {W : World} {sp : Nat → Bool} {r : Reach} {b0 : Nat} {t e : TypeId} {v : Value} {d : DataW H} {ps : List MemPlace}
    (ht : P.underlying t = some (.array 32 e)) (he : P.underlying e = some (.int .u8)) (hC : P.cellsOf t = 32) (hc : P.cellsOf e = 1)
    (hv : Value.okWide P W r b0 t v) (h : DataW.Trod enc P W 0 sp true t v d ps) : ∃ s : Sm, v = .agg (u8s s.l) := by
  obtain ⟨cs, rfl, hs⟩ := okWide_arr ht hv
  obtain ⟨fuel, hf⟩ := h
  obtain ⟨s, h1⟩ := sm_of_cells ht he hC hc hf
  refine ⟨s, ?_⟩
  simp only [Value.cells] at h1
  congr 1
  apply Array.ext'
  rw [h1]
  simp [u8s, Sm.enc]
end Go.Proofs.Ytmlbkcpmgcjblaa

/- An argument that is a row of thirty-two bytes each, as a row of sums. -/
namespace Go.Proofs.Ytmlbkcpmgcjblaa
open Go.RowKit

def RdsS (w : World) (a : Option Addr) (ls : List Sm) : Prop := ∀ i (x : Sm), ls[i]? = some x → ∃ ad, a = some ad ∧ Rd w (some (ad.add (i * 32))) (x.l.map bv)
open Go.ChangeShapes Go.WideShapes Go.Deep in
theorem row_rds {H : Type} {enc : TypeId × Value → H} {P : Program} {W : World} {sp : Nat → Bool} {t e b : TypeId} {a : Option Addr} {len cap : Nat} {d : DataW H} {ps : List MemPlace}
    (ht : P.underlying t = some (.slice e)) (he : P.underlying e = some (.array 32 b)) (hb : P.underlying b = some (.int .u8)) (hC : P.cellsOf e = 32) (hc : P.cellsOf b = 1) (h : DataW.Trod enc P W 0 sp true t (.slice a len cap) d ps) :
    ∃ ls : List Sm, ls.length = len ∧ len ≤ cap ∧ len ≤ maxLen ∧ RdsS W a ls ∧ (a = none → len = 0) := by
  obtain ⟨fuel, hf⟩ := h
  rcases open_slice ht hf with ⟨hcs, _⟩ | ⟨x, l, c, m, n, D, Pl, hcs, _, hl, hm, hmm, _, hi⟩
  · simp [Value.cells] at hcs
    obtain ⟨rfl, rfl, rfl⟩ := hcs
    exact ⟨[], rfl, Nat.le_refl _, Nat.zero_le _, fun i x hi => by simp at hi, fun _ => rfl⟩
  · simp [Value.cells] at hcs
    obtain ⟨rfl, rfl, rfl⟩ := hcs
    have hlm : len ≤ m := by rw [hmm]; split <;> omega
    have hex : ∀ i, i < len → ∃ s : Sm, Rd W (some (x.add (i * 32))) (s.l.map bv) := fun i hil => by
      obtain ⟨cs', h1, h2⟩ := hi i (by omega)
      rw [hC] at h1
      obtain ⟨s, rfl⟩ := sm_of_cells he hb hC hc h2
      obtain ⟨_, hcl, hat⟩ := World.cells?_some h1
      refine ⟨s, fun j v hv => ⟨_, rfl, ?_⟩⟩
      have hj : j < 32 := by have := (List.getElem?_eq_some_iff.1 hv).1; rw [List.length_map, s.len] at this; exact this
      have h3 := hat j hj
      rw [h3]
      exact hv
    have hfun : ∀ i : Fin len, ∃ s : Sm, Rd W (some (x.add (i.val * 32))) (s.l.map bv) := fun i => hex i.val i.isLt
    have hch := Classical.axiomOfChoice hfun
    obtain ⟨f, hf2⟩ := hch
    refine ⟨List.ofFn f, List.length_ofFn, hl, by omega, fun i y hy => ⟨x, rfl, ?_⟩, by simp⟩
    have hil : i < len := by have := (List.getElem?_eq_some_iff.1 hy).1; rwa [List.length_ofFn] at this
    rw [List.getElem?_eq_getElem (by rw [List.length_ofFn]; exact hil), List.getElem_ofFn] at hy
    injection hy with hy
    rw [← hy]
    exact hf2 ⟨i, hil⟩
theorem RdsS.flat {w : World} {a : Option Addr} {ls : List Sm} (h : RdsS w a ls) : Rd w a (flat ls) := fun j v hv => by
  have hj : j < ls.length * 32 := by rw [← flat_len]; exact (List.getElem?_eq_some_iff.1 hv).1
  have hq : j / 32 < ls.length := by omega
  obtain ⟨ad, rfl, hr⟩ := h (j / 32) _ (List.getElem?_eq_getElem hq)
  have hfl := flat_at ls hq
  have h1 : ((Go.Proofs.Ytmlbkcpmgcjblaa.flat ls).drop (j / 32 * 32))[j % 32]? = some v := by
    rw [List.getElem?_drop, show j / 32 * 32 + j % 32 = j by omega]; exact hv
  rw [hfl, List.getElem?_append_left (by rw [enc_len]; omega)] at h1
  have e1 : ls.getD (j / 32) default = ls[j / 32] := by simp [List.getD, List.getElem?_eq_getElem hq]
  rw [e1] at h1
  obtain ⟨ad2, e2, h2⟩ := hr (j % 32) v h1
  injection e2 with e2
  subst e2
  refine ⟨ad, rfl, ?_⟩
  rw [add_add, show j / 32 * 32 + j % 32 = j by omega] at h2
  exact h2
open Go.ChangeShapes Go.WideShapes Go.Deep in
theorem row_sumsR {H : Type} {enc : TypeId × Value → H} {P : Program} {W : World} {sp : Nat → Bool} {t e b : TypeId} {a : Option Addr} {len cap : Nat} {d : DataW H} {ps : List MemPlace}
    (ht : P.underlying t = some (.slice e)) (he : P.underlying e = some (.array 32 b)) (hb : P.underlying b = some (.int .u8)) (hC : P.cellsOf e = 32) (hc : P.cellsOf b = 1) (h : DataW.Trod enc P W 0 sp true t (.slice a len cap) d ps) :
    ∃ ls : List Sm, (Ty.sumsR ls).p W (.slice a len cap) := by
  obtain ⟨ls, h1, h2, h3, h4, h5⟩ := row_rds ht he hb hC hc h
  exact ⟨ls, a, cap, by rw [h1], by omega, fun e => by rw [h1]; exact h5 e, h4.flat⟩
end Go.Proofs.Ytmlbkcpmgcjblaa
