/- Layer 10: the walks of small helpers: rows copied, rows compared. -/
import Derived.Test.YtmlbkcpmgcjblaaSetB
import Derived.Test.YtmlbkcpmgcjblaaTyD
namespace Go.Proofs.Ytmlbkcpmgcjblaa
open Go.RowKit

set_option maxRecDepth 100000 in
theorem row10_ty (L : List Sm) (hL : L.length ≤ 1000000) : Fn1 Try.prog 20 (Ty.sumsR L) (Ty.sums 34 L) := by
  refine ⟨fun args w => by kernel_rfl, fun w v hv => ?_⟩
  refine enter_ty 19 [Ty.ex v] Try.func20 rfl (by kernel_rfl) ⟨rfl, trivial⟩ fun a hF => ?_
  have hB := Below.refl w.heap.size w
  repeat (first | with_reducible refine wp_seq ?_ | with_reducible refine nThen ?_ | with_reducible refine nBlk ?_ | with_reducible refine wp_skip ?_ | with_reducible refine wp_block ?_ | with_reducible refine wp_exit ?_ | with_reducible refine xThen ?_ | with_reducible refine xHere ?_ | with_reducible refine xFar (by decide) ?_ | with_reducible refine wp_ret ?_ | with_reducible refine rThen ?_ | with_reducible refine rBlk ?_)
  refine' reg_all hF ?_ mixed (by kernel_rfl) ?_
  rotate_left
  · repeat (first
        | exact Line.nil
        | (refine' Line.cons rfl (.no rfl rfl rfl rfl rfl rfl) ?_; rotate_left)
        | ((first | refine' Line.cons rfl (.run rfl rfl ?_) ?_ | refine' Line.cons rfl (.yes rfl rfl rfl rfl ?_) ?_)
           any_goals (first | exact cMove rfl rfl | exact cAssign rfl rfl | exact cPickT rfl rfl rfl | exact cPickF rfl rfl rfl | exact cNot rfl rfl | exact cLss rfl rfl rfl | exact cLeq rfl rfl rfl | exact cGtr rfl rfl rfl | exact cGeq rfl rfl rfl | exact cEql rfl rfl rfl | exact cNeq rfl rfl rfl | exact cExtract rfl rfl rfl)
           rotate_left))
  intro a w1 hF hb hN
  replace hB := hB.trans (hb.mono hB.size)
  dsimp only [ext, Option.getD] at hF
  repeat (first | with_reducible refine wp_seq ?_ | with_reducible refine nThen ?_ | with_reducible refine nBlk ?_ | with_reducible refine wp_skip ?_ | with_reducible refine wp_block ?_ | with_reducible refine wp_exit ?_ | with_reducible refine xThen ?_ | with_reducible refine xHere ?_ | with_reducible refine xFar (by decide) ?_ | with_reducible refine wp_ret ?_ | with_reducible refine rThen ?_ | with_reducible refine rBlk ?_)
  refine' reg_all hF ?_ mixed (by kernel_rfl) ?_
  rotate_left
  · repeat (first
        | exact Line.nil
        | (refine' Line.cons rfl (.no rfl rfl rfl rfl rfl rfl) ?_; rotate_left)
        | ((first | refine' Line.cons rfl (.run rfl rfl ?_) ?_ | refine' Line.cons rfl (.yes rfl rfl rfl rfl ?_) ?_)
           any_goals (first | exact cMove rfl rfl | exact cAssign rfl rfl | exact cPickT rfl rfl rfl | exact cPickF rfl rfl rfl | exact cNot rfl rfl | exact cLss rfl rfl rfl | exact cLeq rfl rfl rfl | exact cGtr rfl rfl rfl | exact cGeq rfl rfl rfl | exact cEql rfl rfl rfl | exact cNeq rfl rfl rfl | exact cExtract rfl rfl rfl)
           rotate_left))
  intro a w2 hF hb hN
  replace hB := hB.trans (hb.mono hB.size)
  dsimp only [ext, Option.getD] at hF
  repeat (first | with_reducible refine wp_seq ?_ | with_reducible refine nThen ?_ | with_reducible refine nBlk ?_ | with_reducible refine wp_skip ?_ | with_reducible refine wp_block ?_ | with_reducible refine wp_exit ?_ | with_reducible refine xThen ?_ | with_reducible refine xHere ?_ | with_reducible refine xFar (by decide) ?_ | with_reducible refine wp_ret ?_ | with_reducible refine rThen ?_ | with_reducible refine rBlk ?_)
  refine' reg_all hF ?_ mixed (by kernel_rfl) ?_
  rotate_left
  · repeat (first
        | exact Line.nil
        | (refine' Line.cons rfl (.no rfl rfl rfl rfl rfl rfl) ?_; rotate_left)
        | ((first | refine' Line.cons rfl (.run rfl rfl ?_) ?_ | refine' Line.cons rfl (.yes rfl rfl rfl rfl ?_) ?_)
           any_goals (first | exact cMove rfl rfl | exact cAssign rfl rfl | exact cPickT rfl rfl rfl | exact cPickF rfl rfl rfl | exact cNot rfl rfl | exact cLss rfl rfl rfl | exact cLeq rfl rfl rfl | exact cGtr rfl rfl rfl | exact cGeq rfl rfl rfl | exact cEql rfl rfl rfl | exact cNeq rfl rfl rfl | exact cExtract rfl rfl rfl)
           rotate_left))
  intro a w3 hF hb hN
  replace hB := hB.trans (hb.mono hB.size)
  dsimp only [ext, Option.getD] at hF
  repeat (first | with_reducible refine wp_seq ?_ | with_reducible refine nThen ?_ | with_reducible refine nBlk ?_ | with_reducible refine wp_skip ?_ | with_reducible refine wp_block ?_ | with_reducible refine wp_exit ?_ | with_reducible refine xThen ?_ | with_reducible refine xHere ?_ | with_reducible refine xFar (by decide) ?_ | with_reducible refine wp_ret ?_ | with_reducible refine rThen ?_ | with_reducible refine rBlk ?_)
  refine loop_ty (fun m a wr => ∃ (k : Nat) (u : Value) (S : List Nat), k + m = L.length ∧ Fr 19 [(0, Ty.ex v), (4, Ty.ex (.int .i64 (k : Int))), (3, Ty.ex u)] a wr ∧ Below w.heap.size w wr ∧ Seg wr 34 32 u k (flat (L.take k)) S ∧ ∀ y ∈ S, w.heap.size ≤ y) L.length ?_ ?_
  · exact ⟨0, _, [], by omega, hF.keep [0, 4, 3], hB, Seg.nil _ _ _, by simp⟩
  clear hF hB
  rintro m a wr ⟨k, u, S, hk, hF, hB, hseg, hS⟩
  repeat (first | with_reducible refine wp_seq ?_ | with_reducible refine nThen ?_ | with_reducible refine nBlk ?_ | with_reducible refine wp_skip ?_ | with_reducible refine wp_block ?_ | with_reducible refine wp_exit ?_ | with_reducible refine xThen ?_ | with_reducible refine xHere ?_ | with_reducible refine xFar (by decide) ?_ | with_reducible refine wp_ret ?_ | with_reducible refine rThen ?_ | with_reducible refine rBlk ?_)
  refine' reg_all hF ?_ mixed (by kernel_rfl) ?_
  rotate_left
  · repeat (first
        | exact Line.nil
        | (refine' Line.cons rfl (.no rfl rfl rfl rfl rfl rfl) ?_; rotate_left)
        | ((first | refine' Line.cons rfl (.run rfl rfl ?_) ?_ | refine' Line.cons rfl (.yes rfl rfl rfl rfl ?_) ?_)
           any_goals (first | exact cLenH rfl (.l rfl ((Ty.sumsR L).below hv hB)) (Ty.rd_isSl _ _) Try.underlying22 | exact cMove rfl rfl | exact cAssign rfl rfl | exact cPickT rfl rfl rfl | exact cPickF rfl rfl rfl | exact cNot rfl rfl | exact cLss rfl rfl rfl | exact cLeq rfl rfl rfl | exact cGtr rfl rfl rfl | exact cGeq rfl rfl rfl | exact cEql rfl rfl rfl | exact cNeq rfl rfl rfl | exact cExtract rfl rfl rfl)
           rotate_left))
  intro a w4 hF hb hN
  replace hB := hB.trans (hb.mono hB.size)
  dsimp only [ext, Option.getD] at hF
  repeat (first | with_reducible refine wp_seq ?_ | with_reducible refine nThen ?_ | with_reducible refine nBlk ?_ | with_reducible refine wp_skip ?_ | with_reducible refine wp_block ?_ | with_reducible refine wp_exit ?_ | with_reducible refine xThen ?_ | with_reducible refine xHere ?_ | with_reducible refine xFar (by decide) ?_ | with_reducible refine wp_ret ?_ | with_reducible refine rThen ?_ | with_reducible refine rBlk ?_)
  replace hseg := hseg.below hb
  refine cond_ty hF rfl (fun hlt => ?_) (fun hge => ?_)
  · have hlt : k < L.length := by simpa using hlt
    repeat (first | with_reducible refine wp_seq ?_ | with_reducible refine nThen ?_ | with_reducible refine nBlk ?_ | with_reducible refine wp_skip ?_ | with_reducible refine wp_block ?_ | with_reducible refine wp_exit ?_ | with_reducible refine xThen ?_ | with_reducible refine xHere ?_ | with_reducible refine xFar (by decide) ?_ | with_reducible refine wp_ret ?_ | with_reducible refine rThen ?_ | with_reducible refine rBlk ?_)
    refine' region_ty 6 mixed (by kernel_rfl) hF ?_ ?_
    rotate_left
    · simp only [List.take_succ_cons, List.take_zero]
      repeat (first
          | exact Line.nil
          | (refine' Line.cons rfl (.no rfl rfl rfl rfl rfl rfl) ?_; rotate_left)
          | ((first | refine' Line.cons rfl (.run rfl rfl ?_) ?_ | refine' Line.cons rfl (.yes rfl rfl rfl rfl ?_) ?_)
             any_goals (first | exact cIndexSumR rfl (.l rfl ((Ty.sumsR L).below hv hB)) rfl Try.underlying22 sizeA hlt | exact cLoadSumR rfl (.t rfl) Try.underlying33 sizeA | exact cBuildSums [L.getD k default] rfl (parts1v rfl rfl) Try.underlying25 infoS rfl | exact cMove rfl rfl | exact cAssign rfl rfl | exact cPickT rfl rfl rfl | exact cPickF rfl rfl rfl | exact cNot rfl rfl | exact cLss rfl rfl rfl | exact cLeq rfl rfl rfl | exact cGtr rfl rfl rfl | exact cGeq rfl rfl rfl | exact cEql rfl rfl rfl | exact cNeq rfl rfl rfl | exact cExtract rfl rfl rfl)
             rotate_left))
    intro a w5 hF hb hN
    replace hB := hB.trans (hb.mono hB.size)
    simp only [List.take_succ_cons, List.take_zero, List.drop_succ_cons, List.drop_zero] at hF hN ⊢
    dsimp only [ext, Option.getD] at hF
    replace hseg := hseg.below hb
    refine tlAppend (Δ := [(0, Ty.ex v), (4, Ty.ex (.int .i64 (k : Int)))]) hF rfl rfl rfl rfl Try.underlying25 infoS zero32_size rfl hseg (.t rfl) sl_news (flat_len _) flat_one' (by simp [maxLen]; omega) (by simp; omega) (hF.keep [0, 4]) rfl ?_
    intro a w6 u' S' hF hseg hk2 hS'
    replace hS' := own_next hB hS hS'
    replace hB := below_own hB hk2 hS
    refine' tlOp hF rfl rfl rfl ?_ ?_
    rotate_left
    · first | exact cMove rfl rfl | exact cAssign rfl rfl | exact cPickT rfl rfl rfl | exact cPickF rfl rfl rfl | exact cNot rfl rfl | exact cLss rfl rfl rfl | exact cLeq rfl rfl rfl | exact cGtr rfl rfl rfl | exact cGeq rfl rfl rfl | exact cEql rfl rfl rfl | exact cNeq rfl rfl rfl | exact cExtract rfl rfl rfl
    intro a w7 hF hb
    replace hB := hB.trans (hb.mono hB.size)
    try (refine wpList_nil ?_)
    repeat (first | with_reducible refine wp_seq ?_ | with_reducible refine nThen ?_ | with_reducible refine nBlk ?_ | with_reducible refine wp_skip ?_ | with_reducible refine wp_block ?_ | with_reducible refine wp_exit ?_ | with_reducible refine xThen ?_ | with_reducible refine xHere ?_ | with_reducible refine xFar (by decide) ?_ | with_reducible refine wp_ret ?_ | with_reducible refine rThen ?_ | with_reducible refine rBlk ?_)
    replace hseg := hseg.below hb
    refine' reg_all hF ?_ mixed (by kernel_rfl) ?_
    rotate_left
    · repeat (first
          | exact Line.nil
          | (refine' Line.cons rfl (.no rfl rfl rfl rfl rfl rfl) ?_; rotate_left)
          | ((first | refine' Line.cons rfl (.run rfl rfl ?_) ?_ | refine' Line.cons rfl (.yes rfl rfl rfl rfl ?_) ?_)
             any_goals (first | exact cAdd (r := ((k + 1 : Nat) : Int)) rfl rfl rfl (by omega) | exact cMove rfl rfl | exact cAssign rfl rfl | exact cPickT rfl rfl rfl | exact cPickF rfl rfl rfl | exact cNot rfl rfl | exact cLss rfl rfl rfl | exact cLeq rfl rfl rfl | exact cGtr rfl rfl rfl | exact cGeq rfl rfl rfl | exact cEql rfl rfl rfl | exact cNeq rfl rfl rfl | exact cExtract rfl rfl rfl)
             rotate_left))
    intro a w8 hF hb hN
    replace hB := hB.trans (hb.mono hB.size)
    dsimp only [ext, Option.getD] at hF
    repeat (first | with_reducible refine wp_seq ?_ | with_reducible refine nThen ?_ | with_reducible refine nBlk ?_ | with_reducible refine wp_skip ?_ | with_reducible refine wp_block ?_ | with_reducible refine wp_exit ?_ | with_reducible refine xThen ?_ | with_reducible refine xHere ?_ | with_reducible refine xFar (by decide) ?_ | with_reducible refine wp_ret ?_ | with_reducible refine rThen ?_ | with_reducible refine rBlk ?_)
    rw [flat_one, flat_snoc L hlt] at hseg
    exact ⟨m - 1, by omega, k + 1, u', S', by omega, hF.keep [0, 4, 3], hB, hseg.below hb, hS'⟩
  · have hge : ¬ k < L.length := by simpa using hge
    obtain rfl : k = L.length := by omega
    rw [List.take_length] at hseg
    repeat (first | with_reducible refine wp_seq ?_ | with_reducible refine nThen ?_ | with_reducible refine nBlk ?_ | with_reducible refine wp_skip ?_ | with_reducible refine wp_block ?_ | with_reducible refine wp_exit ?_ | with_reducible refine xThen ?_ | with_reducible refine xHere ?_ | with_reducible refine xFar (by decide) ?_ | with_reducible refine wp_ret ?_ | with_reducible refine rThen ?_ | with_reducible refine rBlk ?_)
    refine' reg_all hF ?_ mixed (by kernel_rfl) ?_
    rotate_left
    · repeat (first
          | exact Line.nil
          | (refine' Line.cons rfl (.no rfl rfl rfl rfl rfl rfl) ?_; rotate_left)
          | ((first | refine' Line.cons rfl (.run rfl rfl ?_) ?_ | refine' Line.cons rfl (.yes rfl rfl rfl rfl ?_) ?_)
             any_goals (first | exact cMove rfl rfl | exact cAssign rfl rfl | exact cPickT rfl rfl rfl | exact cPickF rfl rfl rfl | exact cNot rfl rfl | exact cLss rfl rfl rfl | exact cLeq rfl rfl rfl | exact cGtr rfl rfl rfl | exact cGeq rfl rfl rfl | exact cEql rfl rfl rfl | exact cNeq rfl rfl rfl | exact cExtract rfl rfl rfl)
             rotate_left))
    intro a w5 hF hb hN
    replace hB := hB.trans (hb.mono hB.size)
    dsimp only [ext, Option.getD] at hF
    repeat (first | with_reducible refine wp_seq ?_ | with_reducible refine nThen ?_ | with_reducible refine nBlk ?_ | with_reducible refine wp_skip ?_ | with_reducible refine wp_block ?_ | with_reducible refine wp_exit ?_ | with_reducible refine xThen ?_ | with_reducible refine xHere ?_ | with_reducible refine xFar (by decide) ?_ | with_reducible refine wp_ret ?_ | with_reducible refine rThen ?_ | with_reducible refine rBlk ?_)
    refine ret1 hF rfl rfl fun z hz => ?_
    have hz : z = u := hz
    subst hz
    exact ⟨z, rfl, (hseg.below hb).sl, hB⟩
set_option maxRecDepth 100000 in
theorem row15_ty (L : List Sm) (hL : L.length ≤ 1000000) : Fn1 Try.prog 40 (Ty.sumsR L) (Ty.sums 34 L) := by
  refine ⟨fun args w => by kernel_rfl, fun w v hv => ?_⟩
  refine enter_ty 19 [Ty.ex v] Try.func40 rfl (by kernel_rfl) ⟨rfl, trivial⟩ fun a hF => ?_
  have hB := Below.refl w.heap.size w
  repeat (first | with_reducible refine wp_seq ?_ | with_reducible refine nThen ?_ | with_reducible refine nBlk ?_ | with_reducible refine wp_skip ?_ | with_reducible refine wp_block ?_ | with_reducible refine wp_exit ?_ | with_reducible refine xThen ?_ | with_reducible refine xHere ?_ | with_reducible refine xFar (by decide) ?_ | with_reducible refine wp_ret ?_ | with_reducible refine rThen ?_ | with_reducible refine rBlk ?_)
  refine' reg_all hF ?_ mixed (by kernel_rfl) ?_
  rotate_left
  · repeat (first
        | exact Line.nil
        | (refine' Line.cons rfl (.no rfl rfl rfl rfl rfl rfl) ?_; rotate_left)
        | ((first | refine' Line.cons rfl (.run rfl rfl ?_) ?_ | refine' Line.cons rfl (.yes rfl rfl rfl rfl ?_) ?_)
           any_goals (first | exact cMove rfl rfl | exact cAssign rfl rfl | exact cPickT rfl rfl rfl | exact cPickF rfl rfl rfl | exact cNot rfl rfl | exact cLss rfl rfl rfl | exact cLeq rfl rfl rfl | exact cGtr rfl rfl rfl | exact cGeq rfl rfl rfl | exact cEql rfl rfl rfl | exact cNeq rfl rfl rfl | exact cExtract rfl rfl rfl)
           rotate_left))
  intro a w1 hF hb hN
  replace hB := hB.trans (hb.mono hB.size)
  dsimp only [ext, Option.getD] at hF
  repeat (first | with_reducible refine wp_seq ?_ | with_reducible refine nThen ?_ | with_reducible refine nBlk ?_ | with_reducible refine wp_skip ?_ | with_reducible refine wp_block ?_ | with_reducible refine wp_exit ?_ | with_reducible refine xThen ?_ | with_reducible refine xHere ?_ | with_reducible refine xFar (by decide) ?_ | with_reducible refine wp_ret ?_ | with_reducible refine rThen ?_ | with_reducible refine rBlk ?_)
  refine' reg_all hF ?_ mixed (by kernel_rfl) ?_
  rotate_left
  · repeat (first
        | exact Line.nil
        | (refine' Line.cons rfl (.no rfl rfl rfl rfl rfl rfl) ?_; rotate_left)
        | ((first | refine' Line.cons rfl (.run rfl rfl ?_) ?_ | refine' Line.cons rfl (.yes rfl rfl rfl rfl ?_) ?_)
           any_goals (first | exact cMove rfl rfl | exact cAssign rfl rfl | exact cPickT rfl rfl rfl | exact cPickF rfl rfl rfl | exact cNot rfl rfl | exact cLss rfl rfl rfl | exact cLeq rfl rfl rfl | exact cGtr rfl rfl rfl | exact cGeq rfl rfl rfl | exact cEql rfl rfl rfl | exact cNeq rfl rfl rfl | exact cExtract rfl rfl rfl)
           rotate_left))
  intro a w2 hF hb hN
  replace hB := hB.trans (hb.mono hB.size)
  dsimp only [ext, Option.getD] at hF
  repeat (first | with_reducible refine wp_seq ?_ | with_reducible refine nThen ?_ | with_reducible refine nBlk ?_ | with_reducible refine wp_skip ?_ | with_reducible refine wp_block ?_ | with_reducible refine wp_exit ?_ | with_reducible refine xThen ?_ | with_reducible refine xHere ?_ | with_reducible refine xFar (by decide) ?_ | with_reducible refine wp_ret ?_ | with_reducible refine rThen ?_ | with_reducible refine rBlk ?_)
  refine' reg_all hF ?_ mixed (by kernel_rfl) ?_
  rotate_left
  · repeat (first
        | exact Line.nil
        | (refine' Line.cons rfl (.no rfl rfl rfl rfl rfl rfl) ?_; rotate_left)
        | ((first | refine' Line.cons rfl (.run rfl rfl ?_) ?_ | refine' Line.cons rfl (.yes rfl rfl rfl rfl ?_) ?_)
           any_goals (first | exact cMove rfl rfl | exact cAssign rfl rfl | exact cPickT rfl rfl rfl | exact cPickF rfl rfl rfl | exact cNot rfl rfl | exact cLss rfl rfl rfl | exact cLeq rfl rfl rfl | exact cGtr rfl rfl rfl | exact cGeq rfl rfl rfl | exact cEql rfl rfl rfl | exact cNeq rfl rfl rfl | exact cExtract rfl rfl rfl)
           rotate_left))
  intro a w3 hF hb hN
  replace hB := hB.trans (hb.mono hB.size)
  dsimp only [ext, Option.getD] at hF
  repeat (first | with_reducible refine wp_seq ?_ | with_reducible refine nThen ?_ | with_reducible refine nBlk ?_ | with_reducible refine wp_skip ?_ | with_reducible refine wp_block ?_ | with_reducible refine wp_exit ?_ | with_reducible refine xThen ?_ | with_reducible refine xHere ?_ | with_reducible refine xFar (by decide) ?_ | with_reducible refine wp_ret ?_ | with_reducible refine rThen ?_ | with_reducible refine rBlk ?_)
  refine loop_ty (fun m a wr => ∃ (k : Nat) (u : Value) (S : List Nat), k + m = L.length ∧ Fr 19 [(0, Ty.ex v), (4, Ty.ex (.int .i64 (k : Int))), (3, Ty.ex u)] a wr ∧ Below w.heap.size w wr ∧ Seg wr 34 32 u k (flat (L.take k)) S ∧ ∀ y ∈ S, w.heap.size ≤ y) L.length ?_ ?_
  · exact ⟨0, _, [], by omega, hF.keep [0, 4, 3], hB, Seg.nil _ _ _, by simp⟩
  clear hF hB
  rintro m a wr ⟨k, u, S, hk, hF, hB, hseg, hS⟩
  repeat (first | with_reducible refine wp_seq ?_ | with_reducible refine nThen ?_ | with_reducible refine nBlk ?_ | with_reducible refine wp_skip ?_ | with_reducible refine wp_block ?_ | with_reducible refine wp_exit ?_ | with_reducible refine xThen ?_ | with_reducible refine xHere ?_ | with_reducible refine xFar (by decide) ?_ | with_reducible refine wp_ret ?_ | with_reducible refine rThen ?_ | with_reducible refine rBlk ?_)
  refine' reg_all hF ?_ mixed (by kernel_rfl) ?_
  rotate_left
  · repeat (first
        | exact Line.nil
        | (refine' Line.cons rfl (.no rfl rfl rfl rfl rfl rfl) ?_; rotate_left)
        | ((first | refine' Line.cons rfl (.run rfl rfl ?_) ?_ | refine' Line.cons rfl (.yes rfl rfl rfl rfl ?_) ?_)
           any_goals (first | exact cLenH rfl (.l rfl ((Ty.sumsR L).below hv hB)) (Ty.rd_isSl _ _) Try.underlying22 | exact cMove rfl rfl | exact cAssign rfl rfl | exact cPickT rfl rfl rfl | exact cPickF rfl rfl rfl | exact cNot rfl rfl | exact cLss rfl rfl rfl | exact cLeq rfl rfl rfl | exact cGtr rfl rfl rfl | exact cGeq rfl rfl rfl | exact cEql rfl rfl rfl | exact cNeq rfl rfl rfl | exact cExtract rfl rfl rfl)
           rotate_left))
  intro a w4 hF hb hN
  replace hB := hB.trans (hb.mono hB.size)
  dsimp only [ext, Option.getD] at hF
  repeat (first | with_reducible refine wp_seq ?_ | with_reducible refine nThen ?_ | with_reducible refine nBlk ?_ | with_reducible refine wp_skip ?_ | with_reducible refine wp_block ?_ | with_reducible refine wp_exit ?_ | with_reducible refine xThen ?_ | with_reducible refine xHere ?_ | with_reducible refine xFar (by decide) ?_ | with_reducible refine wp_ret ?_ | with_reducible refine rThen ?_ | with_reducible refine rBlk ?_)
  replace hseg := hseg.below hb
  refine cond_ty hF rfl (fun hlt => ?_) (fun hge => ?_)
  · have hlt : k < L.length := by simpa using hlt
    repeat (first | with_reducible refine wp_seq ?_ | with_reducible refine nThen ?_ | with_reducible refine nBlk ?_ | with_reducible refine wp_skip ?_ | with_reducible refine wp_block ?_ | with_reducible refine wp_exit ?_ | with_reducible refine xThen ?_ | with_reducible refine xHere ?_ | with_reducible refine xFar (by decide) ?_ | with_reducible refine wp_ret ?_ | with_reducible refine rThen ?_ | with_reducible refine rBlk ?_)
    refine' region_ty 6 mixed (by kernel_rfl) hF ?_ ?_
    rotate_left
    · simp only [List.take_succ_cons, List.take_zero]
      repeat (first
          | exact Line.nil
          | (refine' Line.cons rfl (.no rfl rfl rfl rfl rfl rfl) ?_; rotate_left)
          | ((first | refine' Line.cons rfl (.run rfl rfl ?_) ?_ | refine' Line.cons rfl (.yes rfl rfl rfl rfl ?_) ?_)
             any_goals (first | exact cIndexSumR rfl (.l rfl ((Ty.sumsR L).below hv hB)) rfl Try.underlying22 sizeA hlt | exact cLoadSumR rfl (.t rfl) Try.underlying33 sizeA | exact cBuildSums [L.getD k default] rfl (parts1v rfl rfl) Try.underlying25 infoS rfl | exact cMove rfl rfl | exact cAssign rfl rfl | exact cPickT rfl rfl rfl | exact cPickF rfl rfl rfl | exact cNot rfl rfl | exact cLss rfl rfl rfl | exact cLeq rfl rfl rfl | exact cGtr rfl rfl rfl | exact cGeq rfl rfl rfl | exact cEql rfl rfl rfl | exact cNeq rfl rfl rfl | exact cExtract rfl rfl rfl)
             rotate_left))
    intro a w5 hF hb hN
    replace hB := hB.trans (hb.mono hB.size)
    simp only [List.take_succ_cons, List.take_zero, List.drop_succ_cons, List.drop_zero] at hF hN ⊢
    dsimp only [ext, Option.getD] at hF
    replace hseg := hseg.below hb
    refine tlAppend (Δ := [(0, Ty.ex v), (4, Ty.ex (.int .i64 (k : Int)))]) hF rfl rfl rfl rfl Try.underlying25 infoS zero32_size rfl hseg (.t rfl) sl_news (flat_len _) flat_one' (by simp [maxLen]; omega) (by simp; omega) (hF.keep [0, 4]) rfl ?_
    intro a w6 u' S' hF hseg hk2 hS'
    replace hS' := own_next hB hS hS'
    replace hB := below_own hB hk2 hS
    refine' tlOp hF rfl rfl rfl ?_ ?_
    rotate_left
    · first | exact cMove rfl rfl | exact cAssign rfl rfl | exact cPickT rfl rfl rfl | exact cPickF rfl rfl rfl | exact cNot rfl rfl | exact cLss rfl rfl rfl | exact cLeq rfl rfl rfl | exact cGtr rfl rfl rfl | exact cGeq rfl rfl rfl | exact cEql rfl rfl rfl | exact cNeq rfl rfl rfl | exact cExtract rfl rfl rfl
    intro a w7 hF hb
    replace hB := hB.trans (hb.mono hB.size)
    try (refine wpList_nil ?_)
    repeat (first | with_reducible refine wp_seq ?_ | with_reducible refine nThen ?_ | with_reducible refine nBlk ?_ | with_reducible refine wp_skip ?_ | with_reducible refine wp_block ?_ | with_reducible refine wp_exit ?_ | with_reducible refine xThen ?_ | with_reducible refine xHere ?_ | with_reducible refine xFar (by decide) ?_ | with_reducible refine wp_ret ?_ | with_reducible refine rThen ?_ | with_reducible refine rBlk ?_)
    replace hseg := hseg.below hb
    refine' reg_all hF ?_ mixed (by kernel_rfl) ?_
    rotate_left
    · repeat (first
          | exact Line.nil
          | (refine' Line.cons rfl (.no rfl rfl rfl rfl rfl rfl) ?_; rotate_left)
          | ((first | refine' Line.cons rfl (.run rfl rfl ?_) ?_ | refine' Line.cons rfl (.yes rfl rfl rfl rfl ?_) ?_)
             any_goals (first | exact cAdd (r := ((k + 1 : Nat) : Int)) rfl rfl rfl (by omega) | exact cMove rfl rfl | exact cAssign rfl rfl | exact cPickT rfl rfl rfl | exact cPickF rfl rfl rfl | exact cNot rfl rfl | exact cLss rfl rfl rfl | exact cLeq rfl rfl rfl | exact cGtr rfl rfl rfl | exact cGeq rfl rfl rfl | exact cEql rfl rfl rfl | exact cNeq rfl rfl rfl | exact cExtract rfl rfl rfl)
             rotate_left))
    intro a w8 hF hb hN
    replace hB := hB.trans (hb.mono hB.size)
    dsimp only [ext, Option.getD] at hF
    repeat (first | with_reducible refine wp_seq ?_ | with_reducible refine nThen ?_ | with_reducible refine nBlk ?_ | with_reducible refine wp_skip ?_ | with_reducible refine wp_block ?_ | with_reducible refine wp_exit ?_ | with_reducible refine xThen ?_ | with_reducible refine xHere ?_ | with_reducible refine xFar (by decide) ?_ | with_reducible refine wp_ret ?_ | with_reducible refine rThen ?_ | with_reducible refine rBlk ?_)
    rw [flat_one, flat_snoc L hlt] at hseg
    exact ⟨m - 1, by omega, k + 1, u', S', by omega, hF.keep [0, 4, 3], hB, hseg.below hb, hS'⟩
  · have hge : ¬ k < L.length := by simpa using hge
    obtain rfl : k = L.length := by omega
    rw [List.take_length] at hseg
    repeat (first | with_reducible refine wp_seq ?_ | with_reducible refine nThen ?_ | with_reducible refine nBlk ?_ | with_reducible refine wp_skip ?_ | with_reducible refine wp_block ?_ | with_reducible refine wp_exit ?_ | with_reducible refine xThen ?_ | with_reducible refine xHere ?_ | with_reducible refine xFar (by decide) ?_ | with_reducible refine wp_ret ?_ | with_reducible refine rThen ?_ | with_reducible refine rBlk ?_)
    refine' reg_all hF ?_ mixed (by kernel_rfl) ?_
    rotate_left
    · repeat (first
          | exact Line.nil
          | (refine' Line.cons rfl (.no rfl rfl rfl rfl rfl rfl) ?_; rotate_left)
          | ((first | refine' Line.cons rfl (.run rfl rfl ?_) ?_ | refine' Line.cons rfl (.yes rfl rfl rfl rfl ?_) ?_)
             any_goals (first | exact cMove rfl rfl | exact cAssign rfl rfl | exact cPickT rfl rfl rfl | exact cPickF rfl rfl rfl | exact cNot rfl rfl | exact cLss rfl rfl rfl | exact cLeq rfl rfl rfl | exact cGtr rfl rfl rfl | exact cGeq rfl rfl rfl | exact cEql rfl rfl rfl | exact cNeq rfl rfl rfl | exact cExtract rfl rfl rfl)
             rotate_left))
    intro a w5 hF hb hN
    replace hB := hB.trans (hb.mono hB.size)
    dsimp only [ext, Option.getD] at hF
    repeat (first | with_reducible refine wp_seq ?_ | with_reducible refine nThen ?_ | with_reducible refine nBlk ?_ | with_reducible refine wp_skip ?_ | with_reducible refine wp_block ?_ | with_reducible refine wp_exit ?_ | with_reducible refine xThen ?_ | with_reducible refine xHere ?_ | with_reducible refine xFar (by decide) ?_ | with_reducible refine wp_ret ?_ | with_reducible refine rThen ?_ | with_reducible refine rBlk ?_)
    refine ret1 hF rfl rfl fun z hz => ?_
    have hz : z = u := hz
    subst hz
    exact ⟨z, rfl, (hseg.below hb).sl, hB⟩

set_option maxRecDepth 100000 in
theorem own10_ty (L : List Sm) (hL : L.length ≤ 1000000) : Fn1 Try.prog 49 (Ty.sums 34 L) (Ty.sums 61 L) := by
  refine ⟨fun args w => by kernel_rfl, fun w v hv => ?_⟩
  refine enter_ty 19 [Ty.ex v] Try.func49 rfl (by kernel_rfl) ⟨rfl, trivial⟩ fun a hF => ?_
  have hB := Below.refl w.heap.size w
  repeat (first | with_reducible refine wp_seq ?_ | with_reducible refine nThen ?_ | with_reducible refine nBlk ?_ | with_reducible refine wp_skip ?_ | with_reducible refine wp_block ?_ | with_reducible refine wp_exit ?_ | with_reducible refine xThen ?_ | with_reducible refine xHere ?_ | with_reducible refine xFar (by decide) ?_ | with_reducible refine wp_ret ?_ | with_reducible refine rThen ?_ | with_reducible refine rBlk ?_)
  refine' reg_all hF ?_ mixed (by kernel_rfl) ?_
  rotate_left
  · repeat (first
        | exact Line.nil
        | (refine' Line.cons rfl (.no rfl rfl rfl rfl rfl rfl) ?_; rotate_left)
        | ((first | refine' Line.cons rfl (.run rfl rfl ?_) ?_ | refine' Line.cons rfl (.yes rfl rfl rfl rfl ?_) ?_)
           any_goals (first | exact cMove rfl rfl | exact cAssign rfl rfl | exact cPickT rfl rfl rfl | exact cPickF rfl rfl rfl | exact cNot rfl rfl | exact cLss rfl rfl rfl | exact cLeq rfl rfl rfl | exact cGtr rfl rfl rfl | exact cGeq rfl rfl rfl | exact cEql rfl rfl rfl | exact cNeq rfl rfl rfl | exact cExtract rfl rfl rfl)
           rotate_left))
  intro a w1 hF hb hN
  replace hB := hB.trans (hb.mono hB.size)
  dsimp only [ext, Option.getD] at hF
  repeat (first | with_reducible refine wp_seq ?_ | with_reducible refine nThen ?_ | with_reducible refine nBlk ?_ | with_reducible refine wp_skip ?_ | with_reducible refine wp_block ?_ | with_reducible refine wp_exit ?_ | with_reducible refine xThen ?_ | with_reducible refine xHere ?_ | with_reducible refine xFar (by decide) ?_ | with_reducible refine wp_ret ?_ | with_reducible refine rThen ?_ | with_reducible refine rBlk ?_)
  refine' reg_all hF ?_ mixed (by kernel_rfl) ?_
  rotate_left
  · repeat (first
        | exact Line.nil
        | (refine' Line.cons rfl (.no rfl rfl rfl rfl rfl rfl) ?_; rotate_left)
        | ((first | refine' Line.cons rfl (.run rfl rfl ?_) ?_ | refine' Line.cons rfl (.yes rfl rfl rfl rfl ?_) ?_)
           any_goals (first | exact cMove rfl rfl | exact cAssign rfl rfl | exact cPickT rfl rfl rfl | exact cPickF rfl rfl rfl | exact cNot rfl rfl | exact cLss rfl rfl rfl | exact cLeq rfl rfl rfl | exact cGtr rfl rfl rfl | exact cGeq rfl rfl rfl | exact cEql rfl rfl rfl | exact cNeq rfl rfl rfl | exact cExtract rfl rfl rfl)
           rotate_left))
  intro a w2 hF hb hN
  replace hB := hB.trans (hb.mono hB.size)
  dsimp only [ext, Option.getD] at hF
  repeat (first | with_reducible refine wp_seq ?_ | with_reducible refine nThen ?_ | with_reducible refine nBlk ?_ | with_reducible refine wp_skip ?_ | with_reducible refine wp_block ?_ | with_reducible refine wp_exit ?_ | with_reducible refine xThen ?_ | with_reducible refine xHere ?_ | with_reducible refine xFar (by decide) ?_ | with_reducible refine wp_ret ?_ | with_reducible refine rThen ?_ | with_reducible refine rBlk ?_)
  refine' reg_all hF ?_ mixed (by kernel_rfl) ?_
  rotate_left
  · repeat (first
        | exact Line.nil
        | (refine' Line.cons rfl (.no rfl rfl rfl rfl rfl rfl) ?_; rotate_left)
        | ((first | refine' Line.cons rfl (.run rfl rfl ?_) ?_ | refine' Line.cons rfl (.yes rfl rfl rfl rfl ?_) ?_)
           any_goals (first | exact cMove rfl rfl | exact cAssign rfl rfl | exact cPickT rfl rfl rfl | exact cPickF rfl rfl rfl | exact cNot rfl rfl | exact cLss rfl rfl rfl | exact cLeq rfl rfl rfl | exact cGtr rfl rfl rfl | exact cGeq rfl rfl rfl | exact cEql rfl rfl rfl | exact cNeq rfl rfl rfl | exact cExtract rfl rfl rfl)
           rotate_left))
  intro a w3 hF hb hN
  replace hB := hB.trans (hb.mono hB.size)
  dsimp only [ext, Option.getD] at hF
  repeat (first | with_reducible refine wp_seq ?_ | with_reducible refine nThen ?_ | with_reducible refine nBlk ?_ | with_reducible refine wp_skip ?_ | with_reducible refine wp_block ?_ | with_reducible refine wp_exit ?_ | with_reducible refine xThen ?_ | with_reducible refine xHere ?_ | with_reducible refine xFar (by decide) ?_ | with_reducible refine wp_ret ?_ | with_reducible refine rThen ?_ | with_reducible refine rBlk ?_)
  refine loop_ty (fun m a wr => ∃ (k : Nat) (u : Value) (S : List Nat), k + m = L.length ∧ Fr 19 [(0, Ty.ex v), (4, Ty.ex (.int .i64 (k : Int))), (3, Ty.ex u)] a wr ∧ Below w.heap.size w wr ∧ Seg wr 61 32 u k (flat (L.take k)) S ∧ ∀ y ∈ S, w.heap.size ≤ y) L.length ?_ ?_
  · exact ⟨0, _, [], by omega, hF.keep [0, 4, 3], hB, Seg.nil _ _ _, by simp⟩
  clear hF hB
  rintro m a wr ⟨k, u, S, hk, hF, hB, hseg, hS⟩
  repeat (first | with_reducible refine wp_seq ?_ | with_reducible refine nThen ?_ | with_reducible refine nBlk ?_ | with_reducible refine wp_skip ?_ | with_reducible refine wp_block ?_ | with_reducible refine wp_exit ?_ | with_reducible refine xThen ?_ | with_reducible refine xHere ?_ | with_reducible refine xFar (by decide) ?_ | with_reducible refine wp_ret ?_ | with_reducible refine rThen ?_ | with_reducible refine rBlk ?_)
  refine' reg_all hF ?_ mixed (by kernel_rfl) ?_
  rotate_left
  · repeat (first
        | exact Line.nil
        | (refine' Line.cons rfl (.no rfl rfl rfl rfl rfl rfl) ?_; rotate_left)
        | ((first | refine' Line.cons rfl (.run rfl rfl ?_) ?_ | refine' Line.cons rfl (.yes rfl rfl rfl rfl ?_) ?_)
           any_goals (first | exact cLenH rfl (.l rfl ((Ty.sums 34 L).below hv hB)) (Ty.sl_isSl _ _ _) Try.underlying25 | exact cMove rfl rfl | exact cAssign rfl rfl | exact cPickT rfl rfl rfl | exact cPickF rfl rfl rfl | exact cNot rfl rfl | exact cLss rfl rfl rfl | exact cLeq rfl rfl rfl | exact cGtr rfl rfl rfl | exact cGeq rfl rfl rfl | exact cEql rfl rfl rfl | exact cNeq rfl rfl rfl | exact cExtract rfl rfl rfl)
           rotate_left))
  intro a w4 hF hb hN
  replace hB := hB.trans (hb.mono hB.size)
  dsimp only [ext, Option.getD] at hF
  repeat (first | with_reducible refine wp_seq ?_ | with_reducible refine nThen ?_ | with_reducible refine nBlk ?_ | with_reducible refine wp_skip ?_ | with_reducible refine wp_block ?_ | with_reducible refine wp_exit ?_ | with_reducible refine xThen ?_ | with_reducible refine xHere ?_ | with_reducible refine xFar (by decide) ?_ | with_reducible refine wp_ret ?_ | with_reducible refine rThen ?_ | with_reducible refine rBlk ?_)
  replace hseg := hseg.below hb
  refine cond_ty hF rfl (fun hlt => ?_) (fun hge => ?_)
  · have hlt : k < L.length := by simpa using hlt
    repeat (first | with_reducible refine wp_seq ?_ | with_reducible refine nThen ?_ | with_reducible refine nBlk ?_ | with_reducible refine wp_skip ?_ | with_reducible refine wp_block ?_ | with_reducible refine wp_exit ?_ | with_reducible refine xThen ?_ | with_reducible refine xHere ?_ | with_reducible refine xFar (by decide) ?_ | with_reducible refine wp_ret ?_ | with_reducible refine rThen ?_ | with_reducible refine rBlk ?_)
    refine' region_ty 6 mixed (by kernel_rfl) hF ?_ ?_
    rotate_left
    · simp only [List.take_succ_cons, List.take_zero]
      repeat (first
          | exact Line.nil
          | (refine' Line.cons rfl (.no rfl rfl rfl rfl rfl rfl) ?_; rotate_left)
          | ((first | refine' Line.cons rfl (.run rfl rfl ?_) ?_ | refine' Line.cons rfl (.yes rfl rfl rfl rfl ?_) ?_)
             any_goals (first | exact cIndexSum rfl (.l rfl ((Ty.sums 34 L).below hv hB)) rfl Try.underlying25 sizeS hlt | exact cLoadSum rfl (.t rfl) Try.underlying34 sizeS | exact cBuildSums [L.getD k default] rfl (parts1v rfl rfl) Try.underlying58 infoR rfl | exact cMove rfl rfl | exact cAssign rfl rfl | exact cPickT rfl rfl rfl | exact cPickF rfl rfl rfl | exact cNot rfl rfl | exact cLss rfl rfl rfl | exact cLeq rfl rfl rfl | exact cGtr rfl rfl rfl | exact cGeq rfl rfl rfl | exact cEql rfl rfl rfl | exact cNeq rfl rfl rfl | exact cExtract rfl rfl rfl)
             rotate_left))
    intro a w5 hF hb hN
    replace hB := hB.trans (hb.mono hB.size)
    simp only [List.take_succ_cons, List.take_zero, List.drop_succ_cons, List.drop_zero] at hF hN ⊢
    dsimp only [ext, Option.getD] at hF
    replace hseg := hseg.below hb
    refine tlAppend (Δ := [(0, Ty.ex v), (4, Ty.ex (.int .i64 (k : Int)))]) hF rfl rfl rfl rfl Try.underlying58 infoR zero32_size rfl hseg (.t rfl) sl_news (flat_len _) flat_one' (by simp [maxLen]; omega) (by simp; omega) (hF.keep [0, 4]) rfl ?_
    intro a w6 u' S' hF hseg hk2 hS'
    replace hS' := own_next hB hS hS'
    replace hB := below_own hB hk2 hS
    refine' tlOp hF rfl rfl rfl ?_ ?_
    rotate_left
    · first | exact cMove rfl rfl | exact cAssign rfl rfl | exact cPickT rfl rfl rfl | exact cPickF rfl rfl rfl | exact cNot rfl rfl | exact cLss rfl rfl rfl | exact cLeq rfl rfl rfl | exact cGtr rfl rfl rfl | exact cGeq rfl rfl rfl | exact cEql rfl rfl rfl | exact cNeq rfl rfl rfl | exact cExtract rfl rfl rfl
    intro a w7 hF hb
    replace hB := hB.trans (hb.mono hB.size)
    try (refine wpList_nil ?_)
    repeat (first | with_reducible refine wp_seq ?_ | with_reducible refine nThen ?_ | with_reducible refine nBlk ?_ | with_reducible refine wp_skip ?_ | with_reducible refine wp_block ?_ | with_reducible refine wp_exit ?_ | with_reducible refine xThen ?_ | with_reducible refine xHere ?_ | with_reducible refine xFar (by decide) ?_ | with_reducible refine wp_ret ?_ | with_reducible refine rThen ?_ | with_reducible refine rBlk ?_)
    replace hseg := hseg.below hb
    refine' reg_all hF ?_ mixed (by kernel_rfl) ?_
    rotate_left
    · repeat (first
          | exact Line.nil
          | (refine' Line.cons rfl (.no rfl rfl rfl rfl rfl rfl) ?_; rotate_left)
          | ((first | refine' Line.cons rfl (.run rfl rfl ?_) ?_ | refine' Line.cons rfl (.yes rfl rfl rfl rfl ?_) ?_)
             any_goals (first | exact cAdd (r := ((k + 1 : Nat) : Int)) rfl rfl rfl (by omega) | exact cMove rfl rfl | exact cAssign rfl rfl | exact cPickT rfl rfl rfl | exact cPickF rfl rfl rfl | exact cNot rfl rfl | exact cLss rfl rfl rfl | exact cLeq rfl rfl rfl | exact cGtr rfl rfl rfl | exact cGeq rfl rfl rfl | exact cEql rfl rfl rfl | exact cNeq rfl rfl rfl | exact cExtract rfl rfl rfl)
             rotate_left))
    intro a w8 hF hb hN
    replace hB := hB.trans (hb.mono hB.size)
    dsimp only [ext, Option.getD] at hF
    repeat (first | with_reducible refine wp_seq ?_ | with_reducible refine nThen ?_ | with_reducible refine nBlk ?_ | with_reducible refine wp_skip ?_ | with_reducible refine wp_block ?_ | with_reducible refine wp_exit ?_ | with_reducible refine xThen ?_ | with_reducible refine xHere ?_ | with_reducible refine xFar (by decide) ?_ | with_reducible refine wp_ret ?_ | with_reducible refine rThen ?_ | with_reducible refine rBlk ?_)
    rw [flat_one, flat_snoc L hlt] at hseg
    exact ⟨m - 1, by omega, k + 1, u', S', by omega, hF.keep [0, 4, 3], hB, hseg.below hb, hS'⟩
  · have hge : ¬ k < L.length := by simpa using hge
    obtain rfl : k = L.length := by omega
    rw [List.take_length] at hseg
    repeat (first | with_reducible refine wp_seq ?_ | with_reducible refine nThen ?_ | with_reducible refine nBlk ?_ | with_reducible refine wp_skip ?_ | with_reducible refine wp_block ?_ | with_reducible refine wp_exit ?_ | with_reducible refine xThen ?_ | with_reducible refine xHere ?_ | with_reducible refine xFar (by decide) ?_ | with_reducible refine wp_ret ?_ | with_reducible refine rThen ?_ | with_reducible refine rBlk ?_)
    refine' reg_all hF ?_ mixed (by kernel_rfl) ?_
    rotate_left
    · repeat (first
          | exact Line.nil
          | (refine' Line.cons rfl (.no rfl rfl rfl rfl rfl rfl) ?_; rotate_left)
          | ((first | refine' Line.cons rfl (.run rfl rfl ?_) ?_ | refine' Line.cons rfl (.yes rfl rfl rfl rfl ?_) ?_)
             any_goals (first | exact cMove rfl rfl | exact cAssign rfl rfl | exact cPickT rfl rfl rfl | exact cPickF rfl rfl rfl | exact cNot rfl rfl | exact cLss rfl rfl rfl | exact cLeq rfl rfl rfl | exact cGtr rfl rfl rfl | exact cGeq rfl rfl rfl | exact cEql rfl rfl rfl | exact cNeq rfl rfl rfl | exact cExtract rfl rfl rfl)
             rotate_left))
    intro a w5 hF hb hN
    replace hB := hB.trans (hb.mono hB.size)
    dsimp only [ext, Option.getD] at hF
    repeat (first | with_reducible refine wp_seq ?_ | with_reducible refine nThen ?_ | with_reducible refine nBlk ?_ | with_reducible refine wp_skip ?_ | with_reducible refine wp_block ?_ | with_reducible refine wp_exit ?_ | with_reducible refine xThen ?_ | with_reducible refine xHere ?_ | with_reducible refine xFar (by decide) ?_ | with_reducible refine wp_ret ?_ | with_reducible refine rThen ?_ | with_reducible refine rBlk ?_)
    refine ret1 hF rfl rfl fun z hz => ?_
    have hz : z = u := hz
    subst hz
    exact ⟨z, rfl, (hseg.below hb).sl, hB⟩
set_option maxRecDepth 100000 in
theorem own15_ty (L : List Sm) (hL : L.length ≤ 1000000) : Fn1 Try.prog 42 (Ty.sums 34 L) (Ty.sums 61 L) := by
  refine ⟨fun args w => by kernel_rfl, fun w v hv => ?_⟩
  refine enter_ty 19 [Ty.ex v] Try.func42 rfl (by kernel_rfl) ⟨rfl, trivial⟩ fun a hF => ?_
  have hB := Below.refl w.heap.size w
  repeat (first | with_reducible refine wp_seq ?_ | with_reducible refine nThen ?_ | with_reducible refine nBlk ?_ | with_reducible refine wp_skip ?_ | with_reducible refine wp_block ?_ | with_reducible refine wp_exit ?_ | with_reducible refine xThen ?_ | with_reducible refine xHere ?_ | with_reducible refine xFar (by decide) ?_ | with_reducible refine wp_ret ?_ | with_reducible refine rThen ?_ | with_reducible refine rBlk ?_)
  refine' reg_all hF ?_ mixed (by kernel_rfl) ?_
  rotate_left
  · repeat (first
        | exact Line.nil
        | (refine' Line.cons rfl (.no rfl rfl rfl rfl rfl rfl) ?_; rotate_left)
        | ((first | refine' Line.cons rfl (.run rfl rfl ?_) ?_ | refine' Line.cons rfl (.yes rfl rfl rfl rfl ?_) ?_)
           any_goals (first | exact cMove rfl rfl | exact cAssign rfl rfl | exact cPickT rfl rfl rfl | exact cPickF rfl rfl rfl | exact cNot rfl rfl | exact cLss rfl rfl rfl | exact cLeq rfl rfl rfl | exact cGtr rfl rfl rfl | exact cGeq rfl rfl rfl | exact cEql rfl rfl rfl | exact cNeq rfl rfl rfl | exact cExtract rfl rfl rfl)
           rotate_left))
  intro a w1 hF hb hN
  replace hB := hB.trans (hb.mono hB.size)
  dsimp only [ext, Option.getD] at hF
  repeat (first | with_reducible refine wp_seq ?_ | with_reducible refine nThen ?_ | with_reducible refine nBlk ?_ | with_reducible refine wp_skip ?_ | with_reducible refine wp_block ?_ | with_reducible refine wp_exit ?_ | with_reducible refine xThen ?_ | with_reducible refine xHere ?_ | with_reducible refine xFar (by decide) ?_ | with_reducible refine wp_ret ?_ | with_reducible refine rThen ?_ | with_reducible refine rBlk ?_)
  refine' reg_all hF ?_ mixed (by kernel_rfl) ?_
  rotate_left
  · repeat (first
        | exact Line.nil
        | (refine' Line.cons rfl (.no rfl rfl rfl rfl rfl rfl) ?_; rotate_left)
        | ((first | refine' Line.cons rfl (.run rfl rfl ?_) ?_ | refine' Line.cons rfl (.yes rfl rfl rfl rfl ?_) ?_)
           any_goals (first | exact cMove rfl rfl | exact cAssign rfl rfl | exact cPickT rfl rfl rfl | exact cPickF rfl rfl rfl | exact cNot rfl rfl | exact cLss rfl rfl rfl | exact cLeq rfl rfl rfl | exact cGtr rfl rfl rfl | exact cGeq rfl rfl rfl | exact cEql rfl rfl rfl | exact cNeq rfl rfl rfl | exact cExtract rfl rfl rfl)
           rotate_left))
  intro a w2 hF hb hN
  replace hB := hB.trans (hb.mono hB.size)
  dsimp only [ext, Option.getD] at hF
  repeat (first | with_reducible refine wp_seq ?_ | with_reducible refine nThen ?_ | with_reducible refine nBlk ?_ | with_reducible refine wp_skip ?_ | with_reducible refine wp_block ?_ | with_reducible refine wp_exit ?_ | with_reducible refine xThen ?_ | with_reducible refine xHere ?_ | with_reducible refine xFar (by decide) ?_ | with_reducible refine wp_ret ?_ | with_reducible refine rThen ?_ | with_reducible refine rBlk ?_)
  refine' reg_all hF ?_ mixed (by kernel_rfl) ?_
  rotate_left
  · repeat (first
        | exact Line.nil
        | (refine' Line.cons rfl (.no rfl rfl rfl rfl rfl rfl) ?_; rotate_left)
        | ((first | refine' Line.cons rfl (.run rfl rfl ?_) ?_ | refine' Line.cons rfl (.yes rfl rfl rfl rfl ?_) ?_)
           any_goals (first | exact cMove rfl rfl | exact cAssign rfl rfl | exact cPickT rfl rfl rfl | exact cPickF rfl rfl rfl | exact cNot rfl rfl | exact cLss rfl rfl rfl | exact cLeq rfl rfl rfl | exact cGtr rfl rfl rfl | exact cGeq rfl rfl rfl | exact cEql rfl rfl rfl | exact cNeq rfl rfl rfl | exact cExtract rfl rfl rfl)
           rotate_left))
  intro a w3 hF hb hN
  replace hB := hB.trans (hb.mono hB.size)
  dsimp only [ext, Option.getD] at hF
  repeat (first | with_reducible refine wp_seq ?_ | with_reducible refine nThen ?_ | with_reducible refine nBlk ?_ | with_reducible refine wp_skip ?_ | with_reducible refine wp_block ?_ | with_reducible refine wp_exit ?_ | with_reducible refine xThen ?_ | with_reducible refine xHere ?_ | with_reducible refine xFar (by decide) ?_ | with_reducible refine wp_ret ?_ | with_reducible refine rThen ?_ | with_reducible refine rBlk ?_)
  refine loop_ty (fun m a wr => ∃ (k : Nat) (u : Value) (S : List Nat), k + m = L.length ∧ Fr 19 [(0, Ty.ex v), (4, Ty.ex (.int .i64 (k : Int))), (3, Ty.ex u)] a wr ∧ Below w.heap.size w wr ∧ Seg wr 61 32 u k (flat (L.take k)) S ∧ ∀ y ∈ S, w.heap.size ≤ y) L.length ?_ ?_
  · exact ⟨0, _, [], by omega, hF.keep [0, 4, 3], hB, Seg.nil _ _ _, by simp⟩
  clear hF hB
  rintro m a wr ⟨k, u, S, hk, hF, hB, hseg, hS⟩
  repeat (first | with_reducible refine wp_seq ?_ | with_reducible refine nThen ?_ | with_reducible refine nBlk ?_ | with_reducible refine wp_skip ?_ | with_reducible refine wp_block ?_ | with_reducible refine wp_exit ?_ | with_reducible refine xThen ?_ | with_reducible refine xHere ?_ | with_reducible refine xFar (by decide) ?_ | with_reducible refine wp_ret ?_ | with_reducible refine rThen ?_ | with_reducible refine rBlk ?_)
  refine' reg_all hF ?_ mixed (by kernel_rfl) ?_
  rotate_left
  · repeat (first
        | exact Line.nil
        | (refine' Line.cons rfl (.no rfl rfl rfl rfl rfl rfl) ?_; rotate_left)
        | ((first | refine' Line.cons rfl (.run rfl rfl ?_) ?_ | refine' Line.cons rfl (.yes rfl rfl rfl rfl ?_) ?_)
           any_goals (first | exact cLenH rfl (.l rfl ((Ty.sums 34 L).below hv hB)) (Ty.sl_isSl _ _ _) Try.underlying25 | exact cMove rfl rfl | exact cAssign rfl rfl | exact cPickT rfl rfl rfl | exact cPickF rfl rfl rfl | exact cNot rfl rfl | exact cLss rfl rfl rfl | exact cLeq rfl rfl rfl | exact cGtr rfl rfl rfl | exact cGeq rfl rfl rfl | exact cEql rfl rfl rfl | exact cNeq rfl rfl rfl | exact cExtract rfl rfl rfl)
           rotate_left))
  intro a w4 hF hb hN
  replace hB := hB.trans (hb.mono hB.size)
  dsimp only [ext, Option.getD] at hF
  repeat (first | with_reducible refine wp_seq ?_ | with_reducible refine nThen ?_ | with_reducible refine nBlk ?_ | with_reducible refine wp_skip ?_ | with_reducible refine wp_block ?_ | with_reducible refine wp_exit ?_ | with_reducible refine xThen ?_ | with_reducible refine xHere ?_ | with_reducible refine xFar (by decide) ?_ | with_reducible refine wp_ret ?_ | with_reducible refine rThen ?_ | with_reducible refine rBlk ?_)
  replace hseg := hseg.below hb
  refine cond_ty hF rfl (fun hlt => ?_) (fun hge => ?_)
  · have hlt : k < L.length := by simpa using hlt
    repeat (first | with_reducible refine wp_seq ?_ | with_reducible refine nThen ?_ | with_reducible refine nBlk ?_ | with_reducible refine wp_skip ?_ | with_reducible refine wp_block ?_ | with_reducible refine wp_exit ?_ | with_reducible refine xThen ?_ | with_reducible refine xHere ?_ | with_reducible refine xFar (by decide) ?_ | with_reducible refine wp_ret ?_ | with_reducible refine rThen ?_ | with_reducible refine rBlk ?_)
    refine' region_ty 6 mixed (by kernel_rfl) hF ?_ ?_
    rotate_left
    · simp only [List.take_succ_cons, List.take_zero]
      repeat (first
          | exact Line.nil
          | (refine' Line.cons rfl (.no rfl rfl rfl rfl rfl rfl) ?_; rotate_left)
          | ((first | refine' Line.cons rfl (.run rfl rfl ?_) ?_ | refine' Line.cons rfl (.yes rfl rfl rfl rfl ?_) ?_)
             any_goals (first | exact cIndexSum rfl (.l rfl ((Ty.sums 34 L).below hv hB)) rfl Try.underlying25 sizeS hlt | exact cLoadSum rfl (.t rfl) Try.underlying34 sizeS | exact cBuildSums [L.getD k default] rfl (parts1v rfl rfl) Try.underlying58 infoR rfl | exact cMove rfl rfl | exact cAssign rfl rfl | exact cPickT rfl rfl rfl | exact cPickF rfl rfl rfl | exact cNot rfl rfl | exact cLss rfl rfl rfl | exact cLeq rfl rfl rfl | exact cGtr rfl rfl rfl | exact cGeq rfl rfl rfl | exact cEql rfl rfl rfl | exact cNeq rfl rfl rfl | exact cExtract rfl rfl rfl)
             rotate_left))
    intro a w5 hF hb hN
    replace hB := hB.trans (hb.mono hB.size)
    simp only [List.take_succ_cons, List.take_zero, List.drop_succ_cons, List.drop_zero] at hF hN ⊢
    dsimp only [ext, Option.getD] at hF
    replace hseg := hseg.below hb
    refine tlAppend (Δ := [(0, Ty.ex v), (4, Ty.ex (.int .i64 (k : Int)))]) hF rfl rfl rfl rfl Try.underlying58 infoR zero32_size rfl hseg (.t rfl) sl_news (flat_len _) flat_one' (by simp [maxLen]; omega) (by simp; omega) (hF.keep [0, 4]) rfl ?_
    intro a w6 u' S' hF hseg hk2 hS'
    replace hS' := own_next hB hS hS'
    replace hB := below_own hB hk2 hS
    refine' tlOp hF rfl rfl rfl ?_ ?_
    rotate_left
    · first | exact cMove rfl rfl | exact cAssign rfl rfl | exact cPickT rfl rfl rfl | exact cPickF rfl rfl rfl | exact cNot rfl rfl | exact cLss rfl rfl rfl | exact cLeq rfl rfl rfl | exact cGtr rfl rfl rfl | exact cGeq rfl rfl rfl | exact cEql rfl rfl rfl | exact cNeq rfl rfl rfl | exact cExtract rfl rfl rfl
    intro a w7 hF hb
    replace hB := hB.trans (hb.mono hB.size)
    try (refine wpList_nil ?_)
    repeat (first | with_reducible refine wp_seq ?_ | with_reducible refine nThen ?_ | with_reducible refine nBlk ?_ | with_reducible refine wp_skip ?_ | with_reducible refine wp_block ?_ | with_reducible refine wp_exit ?_ | with_reducible refine xThen ?_ | with_reducible refine xHere ?_ | with_reducible refine xFar (by decide) ?_ | with_reducible refine wp_ret ?_ | with_reducible refine rThen ?_ | with_reducible refine rBlk ?_)
    replace hseg := hseg.below hb
    refine' reg_all hF ?_ mixed (by kernel_rfl) ?_
    rotate_left
    · repeat (first
          | exact Line.nil
          | (refine' Line.cons rfl (.no rfl rfl rfl rfl rfl rfl) ?_; rotate_left)
          | ((first | refine' Line.cons rfl (.run rfl rfl ?_) ?_ | refine' Line.cons rfl (.yes rfl rfl rfl rfl ?_) ?_)
             any_goals (first | exact cAdd (r := ((k + 1 : Nat) : Int)) rfl rfl rfl (by omega) | exact cMove rfl rfl | exact cAssign rfl rfl | exact cPickT rfl rfl rfl | exact cPickF rfl rfl rfl | exact cNot rfl rfl | exact cLss rfl rfl rfl | exact cLeq rfl rfl rfl | exact cGtr rfl rfl rfl | exact cGeq rfl rfl rfl | exact cEql rfl rfl rfl | exact cNeq rfl rfl rfl | exact cExtract rfl rfl rfl)
             rotate_left))
    intro a w8 hF hb hN
    replace hB := hB.trans (hb.mono hB.size)
    dsimp only [ext, Option.getD] at hF
    repeat (first | with_reducible refine wp_seq ?_ | with_reducible refine nThen ?_ | with_reducible refine nBlk ?_ | with_reducible refine wp_skip ?_ | with_reducible refine wp_block ?_ | with_reducible refine wp_exit ?_ | with_reducible refine xThen ?_ | with_reducible refine xHere ?_ | with_reducible refine xFar (by decide) ?_ | with_reducible refine wp_ret ?_ | with_reducible refine rThen ?_ | with_reducible refine rBlk ?_)
    rw [flat_one, flat_snoc L hlt] at hseg
    exact ⟨m - 1, by omega, k + 1, u', S', by omega, hF.keep [0, 4, 3], hB, hseg.below hb, hS'⟩
  · have hge : ¬ k < L.length := by simpa using hge
    obtain rfl : k = L.length := by omega
    rw [List.take_length] at hseg
    repeat (first | with_reducible refine wp_seq ?_ | with_reducible refine nThen ?_ | with_reducible refine nBlk ?_ | with_reducible refine wp_skip ?_ | with_reducible refine wp_block ?_ | with_reducible refine wp_exit ?_ | with_reducible refine xThen ?_ | with_reducible refine xHere ?_ | with_reducible refine xFar (by decide) ?_ | with_reducible refine wp_ret ?_ | with_reducible refine rThen ?_ | with_reducible refine rBlk ?_)
    refine' reg_all hF ?_ mixed (by kernel_rfl) ?_
    rotate_left
    · repeat (first
          | exact Line.nil
          | (refine' Line.cons rfl (.no rfl rfl rfl rfl rfl rfl) ?_; rotate_left)
          | ((first | refine' Line.cons rfl (.run rfl rfl ?_) ?_ | refine' Line.cons rfl (.yes rfl rfl rfl rfl ?_) ?_)
             any_goals (first | exact cMove rfl rfl | exact cAssign rfl rfl | exact cPickT rfl rfl rfl | exact cPickF rfl rfl rfl | exact cNot rfl rfl | exact cLss rfl rfl rfl | exact cLeq rfl rfl rfl | exact cGtr rfl rfl rfl | exact cGeq rfl rfl rfl | exact cEql rfl rfl rfl | exact cNeq rfl rfl rfl | exact cExtract rfl rfl rfl)
             rotate_left))
    intro a w5 hF hb hN
    replace hB := hB.trans (hb.mono hB.size)
    dsimp only [ext, Option.getD] at hF
    repeat (first | with_reducible refine wp_seq ?_ | with_reducible refine nThen ?_ | with_reducible refine nBlk ?_ | with_reducible refine wp_skip ?_ | with_reducible refine wp_block ?_ | with_reducible refine wp_exit ?_ | with_reducible refine xThen ?_ | with_reducible refine xHere ?_ | with_reducible refine xFar (by decide) ?_ | with_reducible refine wp_ret ?_ | with_reducible refine rThen ?_ | with_reducible refine rBlk ?_)
    refine ret1 hF rfl rfl fun z hz => ?_
    have hz : z = u := hz
    subst hz
    exact ⟨z, rfl, (hseg.below hb).sl, hB⟩
end Go.Proofs.Ytmlbkcpmgcjblaa
