/- Layer 14 by types: the walk of PlaceParts. -/
import Derived.Test.YtofekkhhminkhaaDoorPlaceI
namespace Go.Proofs.YtofekkhhminkhaaDoor
open Go.RowKit

theorem places3 (seed N : Nat) (x : Sm) (h : goodN (N : Int) = true) : ∃ a b c, placesN seed (N : Int) x = [a, b, c] ∧ a < N / 3 ∧ N / 3 ≤ b ∧ b < 2 * (N / 3) ∧ 2 * (N / 3) ≤ c ∧ c < 3 * (N / 3) := by
  have hg := of_decide_eq_true h
  have hp : 0 < N / 3 := by omega
  have h0 := Nat.mod_lt (wordF (placeS seed x).l 0 8) hp
  have h1 := Nat.mod_lt (wordF (placeS seed x).l 1 8) hp
  have h2 := Nat.mod_lt (wordF (placeS seed x).l 2 8) hp
  refine ⟨0 * (N / 3) + wordF (placeS seed x).l 0 8 % (N / 3), 1 * (N / 3) + wordF (placeS seed x).l 1 8 % (N / 3), 2 * (N / 3) + wordF (placeS seed x).l 2 8 % (N / 3), ?_, by omega, by omega, by omega, by omega, by omega⟩
  unfold placesN
  rw [if_pos h, Int.toNat_natCast]
  rfl
set_option maxRecDepth 100000 in
set_option maxHeartbeats 4000000 in
theorem lawPlaceParts_any (seed : Nat) (n : Int) (x : Sm) (W : World) (hsd : seed < 18446744073709551616) (hT : TabOk W) : Calls Tryd.prog 4 #[.int .u64 (seed : Int), .int .i64 n, .agg (u8s x.l)] W fun e w' => e = .returned (.bool true) ∧ Below W.heap.size W w' := by
  have g1 := good14_ty n
  have g2 := good14_ty (n + 3)
  by_cases h1 : goodN n = true
  rotate_left
  · have h1 : goodN n = false := by simpa using h1
    rw [h1] at g1
    refine enter_ty 102 [Ty.ex (.int .u64 (seed : Int)), Ty.ex (.int .i64 n), Ty.ex (.agg (u8s x.l))] Tryd.func4 rfl (by kernel_rfl) ⟨rfl, rfl, rfl, trivial⟩ fun a hF => ?_
    have hB := Below.refl W.heap.size W
    repeat (first | with_reducible refine wp_seq ?_ | with_reducible refine nThen ?_ | with_reducible refine nBlk ?_ | with_reducible refine wp_skip ?_ | with_reducible refine wp_block ?_ | with_reducible refine wp_exit ?_ | with_reducible refine xThen ?_ | with_reducible refine xHere ?_ | with_reducible refine xFar (by decide) ?_ | with_reducible refine wp_ret ?_ | with_reducible refine rThen ?_ | with_reducible refine rBlk ?_)
    refine' reg_all hF ?_ mixed (by kernel_rfl) ?_
    rotate_left
    · repeat (first
          | exact Line.nil
          | (refine' Line.cons rfl (.no rfl rfl rfl rfl rfl rfl) ?_; rotate_left)
          | ((first | refine' Line.cons rfl (.run rfl rfl ?_) ?_ | refine' Line.cons rfl (.yes rfl rfl rfl rfl ?_) ?_)
             any_goals (first | exact cMove rfl rfl | exact cAssign rfl rfl | exact cNot rfl rfl | exact cBoxSum rfl rfl | exact cPickT rfl rfl rfl | exact cPickF rfl rfl rfl | exact cLss rfl rfl rfl | exact cLeq rfl rfl rfl | exact cGtr rfl rfl rfl | exact cGeq rfl rfl rfl | exact cEql rfl rfl rfl | exact cNeq rfl rfl rfl | exact cExtract rfl rfl rfl)
             rotate_left))
    intro a w1 hF hb hN
    have hBs := hB.size
    replace hB := hB.trans (hb.mono hB.size)
    dsimp only [ext, Option.getD] at hF
    repeat (first | with_reducible refine wp_seq ?_ | with_reducible refine nThen ?_ | with_reducible refine nBlk ?_ | with_reducible refine wp_skip ?_ | with_reducible refine wp_block ?_ | with_reducible refine wp_exit ?_ | with_reducible refine xThen ?_ | with_reducible refine xHere ?_ | with_reducible refine xFar (by decide) ?_ | with_reducible refine wp_ret ?_ | with_reducible refine rThen ?_ | with_reducible refine rBlk ?_)
    refine' reg_all hF ?_ mixed (by kernel_rfl) ?_
    rotate_left
    · repeat (first
          | exact Line.nil
          | (refine' Line.cons rfl (.no rfl rfl rfl rfl rfl rfl) ?_; rotate_left)
          | ((first | refine' Line.cons rfl (.run rfl rfl ?_) ?_ | refine' Line.cons rfl (.yes rfl rfl rfl rfl ?_) ?_)
             any_goals (first | exact cMove rfl rfl | exact cAssign rfl rfl | exact cNot rfl rfl | exact cCall0 rfl awake14_ty | exact cPickT rfl rfl rfl | exact cPickF rfl rfl rfl | exact cLss rfl rfl rfl | exact cLeq rfl rfl rfl | exact cGtr rfl rfl rfl | exact cGeq rfl rfl rfl | exact cEql rfl rfl rfl | exact cNeq rfl rfl rfl | exact cExtract rfl rfl rfl)
             rotate_left))
    intro a w2 hF hb hN
    have hBs := hB.size
    replace hB := hB.trans (hb.mono hB.size)
    dsimp only [ext, Option.getD] at hF
    repeat (first | with_reducible refine wp_seq ?_ | with_reducible refine nThen ?_ | with_reducible refine nBlk ?_ | with_reducible refine wp_skip ?_ | with_reducible refine wp_block ?_ | with_reducible refine wp_exit ?_ | with_reducible refine xThen ?_ | with_reducible refine xHere ?_ | with_reducible refine xFar (by decide) ?_ | with_reducible refine wp_ret ?_ | with_reducible refine rThen ?_ | with_reducible refine rBlk ?_)
    refine cond_f hF rfl ?_
    repeat (first | with_reducible refine wp_seq ?_ | with_reducible refine nThen ?_ | with_reducible refine nBlk ?_ | with_reducible refine wp_skip ?_ | with_reducible refine wp_block ?_ | with_reducible refine wp_exit ?_ | with_reducible refine xThen ?_ | with_reducible refine xHere ?_ | with_reducible refine xFar (by decide) ?_ | with_reducible refine wp_ret ?_ | with_reducible refine rThen ?_ | with_reducible refine rBlk ?_)
    refine' reg_all hF ?_ mixed (by kernel_rfl) ?_
    rotate_left
    · repeat (first
          | exact Line.nil
          | (refine' Line.cons rfl (.no rfl rfl rfl rfl rfl rfl) ?_; rotate_left)
          | ((first | refine' Line.cons rfl (.run rfl rfl ?_) ?_ | refine' Line.cons rfl (.yes rfl rfl rfl rfl ?_) ?_)
             any_goals (first | exact cMove rfl rfl | exact cAssign rfl rfl | exact cNot rfl rfl | exact cCall1 rfl rfl g1 | exact cPickT rfl rfl rfl | exact cPickF rfl rfl rfl | exact cLss rfl rfl rfl | exact cLeq rfl rfl rfl | exact cGtr rfl rfl rfl | exact cGeq rfl rfl rfl | exact cEql rfl rfl rfl | exact cNeq rfl rfl rfl | exact cExtract rfl rfl rfl)
             rotate_left))
    intro a w3 hF hb hN
    have hBs := hB.size
    replace hB := hB.trans (hb.mono hB.size)
    dsimp only [ext, Option.getD] at hF
    repeat (first | with_reducible refine wp_seq ?_ | with_reducible refine nThen ?_ | with_reducible refine nBlk ?_ | with_reducible refine wp_skip ?_ | with_reducible refine wp_block ?_ | with_reducible refine wp_exit ?_ | with_reducible refine xThen ?_ | with_reducible refine xHere ?_ | with_reducible refine xFar (by decide) ?_ | with_reducible refine wp_ret ?_ | with_reducible refine rThen ?_ | with_reducible refine rBlk ?_)
    refine cond_t hF rfl ?_
    repeat (first | with_reducible refine wp_seq ?_ | with_reducible refine nThen ?_ | with_reducible refine nBlk ?_ | with_reducible refine wp_skip ?_ | with_reducible refine wp_block ?_ | with_reducible refine wp_exit ?_ | with_reducible refine xThen ?_ | with_reducible refine xHere ?_ | with_reducible refine xFar (by decide) ?_ | with_reducible refine wp_ret ?_ | with_reducible refine rThen ?_ | with_reducible refine rBlk ?_)
    refine' reg_all hF ?_ mixed (by kernel_rfl) ?_
    rotate_left
    · repeat (first
          | exact Line.nil
          | (refine' Line.cons rfl (.no rfl rfl rfl rfl rfl rfl) ?_; rotate_left)
          | ((first | refine' Line.cons rfl (.run rfl rfl ?_) ?_ | refine' Line.cons rfl (.yes rfl rfl rfl rfl ?_) ?_)
             any_goals (first | exact cMove rfl rfl | exact cAssign rfl rfl | exact cNot rfl rfl | exact cPickT rfl rfl rfl | exact cPickF rfl rfl rfl | exact cLss rfl rfl rfl | exact cLeq rfl rfl rfl | exact cGtr rfl rfl rfl | exact cGeq rfl rfl rfl | exact cEql rfl rfl rfl | exact cNeq rfl rfl rfl | exact cExtract rfl rfl rfl)
             rotate_left))
    intro a w4 hF hb hN
    have hBs := hB.size
    replace hB := hB.trans (hb.mono hB.size)
    dsimp only [ext, Option.getD] at hF
    repeat (first | with_reducible refine wp_seq ?_ | with_reducible refine nThen ?_ | with_reducible refine nBlk ?_ | with_reducible refine wp_skip ?_ | with_reducible refine wp_block ?_ | with_reducible refine wp_exit ?_ | with_reducible refine xThen ?_ | with_reducible refine xHere ?_ | with_reducible refine xFar (by decide) ?_ | with_reducible refine wp_ret ?_ | with_reducible refine rThen ?_ | with_reducible refine rBlk ?_)
    refine ret1 hF rfl rfl fun z hz => ?_
    exact ⟨by rw [show z = .bool true from hz], hB⟩
  have hgd := of_decide_eq_true h1
  rw [h1] at g1
  by_cases h2 : goodN (n + 3) = true
  rotate_left
  · have h2 : goodN (n + 3) = false := by simpa using h2
    rw [h2] at g2
    refine enter_ty 102 [Ty.ex (.int .u64 (seed : Int)), Ty.ex (.int .i64 n), Ty.ex (.agg (u8s x.l))] Tryd.func4 rfl (by kernel_rfl) ⟨rfl, rfl, rfl, trivial⟩ fun a hF => ?_
    have hB := Below.refl W.heap.size W
    repeat (first | with_reducible refine wp_seq ?_ | with_reducible refine nThen ?_ | with_reducible refine nBlk ?_ | with_reducible refine wp_skip ?_ | with_reducible refine wp_block ?_ | with_reducible refine wp_exit ?_ | with_reducible refine xThen ?_ | with_reducible refine xHere ?_ | with_reducible refine xFar (by decide) ?_ | with_reducible refine wp_ret ?_ | with_reducible refine rThen ?_ | with_reducible refine rBlk ?_)
    refine' reg_all hF ?_ mixed (by kernel_rfl) ?_
    rotate_left
    · repeat (first
          | exact Line.nil
          | (refine' Line.cons rfl (.no rfl rfl rfl rfl rfl rfl) ?_; rotate_left)
          | ((first | refine' Line.cons rfl (.run rfl rfl ?_) ?_ | refine' Line.cons rfl (.yes rfl rfl rfl rfl ?_) ?_)
             any_goals (first | exact cMove rfl rfl | exact cAssign rfl rfl | exact cNot rfl rfl | exact cBoxSum rfl rfl | exact cPickT rfl rfl rfl | exact cPickF rfl rfl rfl | exact cLss rfl rfl rfl | exact cLeq rfl rfl rfl | exact cGtr rfl rfl rfl | exact cGeq rfl rfl rfl | exact cEql rfl rfl rfl | exact cNeq rfl rfl rfl | exact cExtract rfl rfl rfl)
             rotate_left))
    intro a w1 hF hb hN
    have hBs := hB.size
    replace hB := hB.trans (hb.mono hB.size)
    dsimp only [ext, Option.getD] at hF
    repeat (first | with_reducible refine wp_seq ?_ | with_reducible refine nThen ?_ | with_reducible refine nBlk ?_ | with_reducible refine wp_skip ?_ | with_reducible refine wp_block ?_ | with_reducible refine wp_exit ?_ | with_reducible refine xThen ?_ | with_reducible refine xHere ?_ | with_reducible refine xFar (by decide) ?_ | with_reducible refine wp_ret ?_ | with_reducible refine rThen ?_ | with_reducible refine rBlk ?_)
    refine' reg_all hF ?_ mixed (by kernel_rfl) ?_
    rotate_left
    · repeat (first
          | exact Line.nil
          | (refine' Line.cons rfl (.no rfl rfl rfl rfl rfl rfl) ?_; rotate_left)
          | ((first | refine' Line.cons rfl (.run rfl rfl ?_) ?_ | refine' Line.cons rfl (.yes rfl rfl rfl rfl ?_) ?_)
             any_goals (first | exact cMove rfl rfl | exact cAssign rfl rfl | exact cNot rfl rfl | exact cCall0 rfl awake14_ty | exact cPickT rfl rfl rfl | exact cPickF rfl rfl rfl | exact cLss rfl rfl rfl | exact cLeq rfl rfl rfl | exact cGtr rfl rfl rfl | exact cGeq rfl rfl rfl | exact cEql rfl rfl rfl | exact cNeq rfl rfl rfl | exact cExtract rfl rfl rfl)
             rotate_left))
    intro a w2 hF hb hN
    have hBs := hB.size
    replace hB := hB.trans (hb.mono hB.size)
    dsimp only [ext, Option.getD] at hF
    repeat (first | with_reducible refine wp_seq ?_ | with_reducible refine nThen ?_ | with_reducible refine nBlk ?_ | with_reducible refine wp_skip ?_ | with_reducible refine wp_block ?_ | with_reducible refine wp_exit ?_ | with_reducible refine xThen ?_ | with_reducible refine xHere ?_ | with_reducible refine xFar (by decide) ?_ | with_reducible refine wp_ret ?_ | with_reducible refine rThen ?_ | with_reducible refine rBlk ?_)
    refine cond_f hF rfl ?_
    repeat (first | with_reducible refine wp_seq ?_ | with_reducible refine nThen ?_ | with_reducible refine nBlk ?_ | with_reducible refine wp_skip ?_ | with_reducible refine wp_block ?_ | with_reducible refine wp_exit ?_ | with_reducible refine xThen ?_ | with_reducible refine xHere ?_ | with_reducible refine xFar (by decide) ?_ | with_reducible refine wp_ret ?_ | with_reducible refine rThen ?_ | with_reducible refine rBlk ?_)
    refine' reg_all hF ?_ mixed (by kernel_rfl) ?_
    rotate_left
    · repeat (first
          | exact Line.nil
          | (refine' Line.cons rfl (.no rfl rfl rfl rfl rfl rfl) ?_; rotate_left)
          | ((first | refine' Line.cons rfl (.run rfl rfl ?_) ?_ | refine' Line.cons rfl (.yes rfl rfl rfl rfl ?_) ?_)
             any_goals (first | exact cMove rfl rfl | exact cAssign rfl rfl | exact cNot rfl rfl | exact cCall1 rfl rfl g1 | exact cAdd (r := n + 3) rfl rfl rfl (by omega) | exact cCall1 rfl rfl g2 | exact cPickT rfl rfl rfl | exact cPickF rfl rfl rfl | exact cLss rfl rfl rfl | exact cLeq rfl rfl rfl | exact cGtr rfl rfl rfl | exact cGeq rfl rfl rfl | exact cEql rfl rfl rfl | exact cNeq rfl rfl rfl | exact cExtract rfl rfl rfl)
             rotate_left))
    intro a w3 hF hb hN
    have hBs := hB.size
    replace hB := hB.trans (hb.mono hB.size)
    dsimp only [ext, Option.getD] at hF
    repeat (first | with_reducible refine wp_seq ?_ | with_reducible refine nThen ?_ | with_reducible refine nBlk ?_ | with_reducible refine wp_skip ?_ | with_reducible refine wp_block ?_ | with_reducible refine wp_exit ?_ | with_reducible refine xThen ?_ | with_reducible refine xHere ?_ | with_reducible refine xFar (by decide) ?_ | with_reducible refine wp_ret ?_ | with_reducible refine rThen ?_ | with_reducible refine rBlk ?_)
    refine cond_t hF rfl ?_
    repeat (first | with_reducible refine wp_seq ?_ | with_reducible refine nThen ?_ | with_reducible refine nBlk ?_ | with_reducible refine wp_skip ?_ | with_reducible refine wp_block ?_ | with_reducible refine wp_exit ?_ | with_reducible refine xThen ?_ | with_reducible refine xHere ?_ | with_reducible refine xFar (by decide) ?_ | with_reducible refine wp_ret ?_ | with_reducible refine rThen ?_ | with_reducible refine rBlk ?_)
    refine' reg_all hF ?_ mixed (by kernel_rfl) ?_
    rotate_left
    · repeat (first
          | exact Line.nil
          | (refine' Line.cons rfl (.no rfl rfl rfl rfl rfl rfl) ?_; rotate_left)
          | ((first | refine' Line.cons rfl (.run rfl rfl ?_) ?_ | refine' Line.cons rfl (.yes rfl rfl rfl rfl ?_) ?_)
             any_goals (first | exact cMove rfl rfl | exact cAssign rfl rfl | exact cNot rfl rfl | exact cPickT rfl rfl rfl | exact cPickF rfl rfl rfl | exact cLss rfl rfl rfl | exact cLeq rfl rfl rfl | exact cGtr rfl rfl rfl | exact cGeq rfl rfl rfl | exact cEql rfl rfl rfl | exact cNeq rfl rfl rfl | exact cExtract rfl rfl rfl)
             rotate_left))
    intro a w4 hF hb hN
    have hBs := hB.size
    replace hB := hB.trans (hb.mono hB.size)
    dsimp only [ext, Option.getD] at hF
    repeat (first | with_reducible refine wp_seq ?_ | with_reducible refine nThen ?_ | with_reducible refine nBlk ?_ | with_reducible refine wp_skip ?_ | with_reducible refine wp_block ?_ | with_reducible refine wp_exit ?_ | with_reducible refine xThen ?_ | with_reducible refine xHere ?_ | with_reducible refine xFar (by decide) ?_ | with_reducible refine wp_ret ?_ | with_reducible refine rThen ?_ | with_reducible refine rBlk ?_)
    refine ret1 hF rfl rfl fun z hz => ?_
    exact ⟨by rw [show z = .bool true from hz], hB⟩
  rw [h2] at g2
  obtain ⟨N, rfl⟩ : ∃ N : Nat, n = (N : Int) := ⟨n.toNat, by omega⟩
  obtain ⟨a0, a1, a2, hA, i1, i2, i3, i4, i5⟩ := places3 seed N x h1
  obtain ⟨b0, b1, b2, hBq, j1, j2, j3, j4, j5⟩ := places3 seed (N + 3) x (by rw [Int.natCast_add]; exact h2)
  have p1 := places_ty seed (N : Int) x hsd
  have p2 := places_ty seed ((N + 3 : Nat) : Int) x hsd
  rw [hA] at p1
  rw [hBq] at p2
  have hlv : levelS x ≤ 9 := halves_le _ _
  have heL : Enters Tryd.prog 12 := fun args w => by kernel_rfl
  have hL := level_ret x
  generalize levelS x = lv at *
  refine enter_ty 102 [Ty.ex (.int .u64 (seed : Int)), Ty.ex (.int .i64 (N : Int)), Ty.ex (.agg (u8s x.l))] Tryd.func4 rfl (by kernel_rfl) ⟨rfl, rfl, rfl, trivial⟩ fun a hF => ?_
  have hB := Below.refl W.heap.size W
  repeat (first | with_reducible refine wp_seq ?_ | with_reducible refine nThen ?_ | with_reducible refine nBlk ?_ | with_reducible refine wp_skip ?_ | with_reducible refine wp_block ?_ | with_reducible refine wp_exit ?_ | with_reducible refine xThen ?_ | with_reducible refine xHere ?_ | with_reducible refine xFar (by decide) ?_ | with_reducible refine wp_ret ?_ | with_reducible refine rThen ?_ | with_reducible refine rBlk ?_)
  refine' reg_all hF ?_ mixed (by kernel_rfl) ?_
  rotate_left
  · repeat (first
        | exact Line.nil
        | (refine' Line.cons rfl (.no rfl rfl rfl rfl rfl rfl) ?_; rotate_left)
        | ((first | refine' Line.cons rfl (.run rfl rfl ?_) ?_ | refine' Line.cons rfl (.yes rfl rfl rfl rfl ?_) ?_)
           any_goals (first | exact cMove rfl rfl | exact cAssign rfl rfl | exact cNot rfl rfl | exact cBoxSum rfl rfl | exact cPickT rfl rfl rfl | exact cPickF rfl rfl rfl | exact cLss rfl rfl rfl | exact cLeq rfl rfl rfl | exact cGtr rfl rfl rfl | exact cGeq rfl rfl rfl | exact cEql rfl rfl rfl | exact cNeq rfl rfl rfl | exact cExtract rfl rfl rfl)
           rotate_left))
  intro a w1 hF hb hN
  have hBs := hB.size
  replace hB := hB.trans (hb.mono hB.size)
  dsimp only [ext, Option.getD] at hF
  repeat (first | with_reducible refine wp_seq ?_ | with_reducible refine nThen ?_ | with_reducible refine nBlk ?_ | with_reducible refine wp_skip ?_ | with_reducible refine wp_block ?_ | with_reducible refine wp_exit ?_ | with_reducible refine xThen ?_ | with_reducible refine xHere ?_ | with_reducible refine xFar (by decide) ?_ | with_reducible refine wp_ret ?_ | with_reducible refine rThen ?_ | with_reducible refine rBlk ?_)
  refine' reg_all hF ?_ mixed (by kernel_rfl) ?_
  rotate_left
  · repeat (first
        | exact Line.nil
        | (refine' Line.cons rfl (.no rfl rfl rfl rfl rfl rfl) ?_; rotate_left)
        | ((first | refine' Line.cons rfl (.run rfl rfl ?_) ?_ | refine' Line.cons rfl (.yes rfl rfl rfl rfl ?_) ?_)
           any_goals (first | exact cMove rfl rfl | exact cAssign rfl rfl | exact cNot rfl rfl | exact cCall0 rfl awake14_ty | exact cPickT rfl rfl rfl | exact cPickF rfl rfl rfl | exact cLss rfl rfl rfl | exact cLeq rfl rfl rfl | exact cGtr rfl rfl rfl | exact cGeq rfl rfl rfl | exact cEql rfl rfl rfl | exact cNeq rfl rfl rfl | exact cExtract rfl rfl rfl)
           rotate_left))
  intro a w2 hF hb hN
  have hBs := hB.size
  replace hB := hB.trans (hb.mono hB.size)
  dsimp only [ext, Option.getD] at hF
  repeat (first | with_reducible refine wp_seq ?_ | with_reducible refine nThen ?_ | with_reducible refine nBlk ?_ | with_reducible refine wp_skip ?_ | with_reducible refine wp_block ?_ | with_reducible refine wp_exit ?_ | with_reducible refine xThen ?_ | with_reducible refine xHere ?_ | with_reducible refine xFar (by decide) ?_ | with_reducible refine wp_ret ?_ | with_reducible refine rThen ?_ | with_reducible refine rBlk ?_)
  refine cond_f hF rfl ?_
  repeat (first | with_reducible refine wp_seq ?_ | with_reducible refine nThen ?_ | with_reducible refine nBlk ?_ | with_reducible refine wp_skip ?_ | with_reducible refine wp_block ?_ | with_reducible refine wp_exit ?_ | with_reducible refine xThen ?_ | with_reducible refine xHere ?_ | with_reducible refine xFar (by decide) ?_ | with_reducible refine wp_ret ?_ | with_reducible refine rThen ?_ | with_reducible refine rBlk ?_)
  refine' reg_all hF ?_ mixed (by kernel_rfl) ?_
  rotate_left
  · repeat (first
        | exact Line.nil
        | (refine' Line.cons rfl (.no rfl rfl rfl rfl rfl rfl) ?_; rotate_left)
        | ((first | refine' Line.cons rfl (.run rfl rfl ?_) ?_ | refine' Line.cons rfl (.yes rfl rfl rfl rfl ?_) ?_)
           any_goals (first | exact cMove rfl rfl | exact cAssign rfl rfl | exact cNot rfl rfl | exact cCall1 rfl rfl g1 | exact cAdd (r := (N : Int) + 3) rfl rfl rfl (by omega) | exact cCall1 rfl rfl g2 | exact cPickT rfl rfl rfl | exact cPickF rfl rfl rfl | exact cLss rfl rfl rfl | exact cLeq rfl rfl rfl | exact cGtr rfl rfl rfl | exact cGeq rfl rfl rfl | exact cEql rfl rfl rfl | exact cNeq rfl rfl rfl | exact cExtract rfl rfl rfl)
           rotate_left))
  intro a w3 hF hb hN
  have hBs := hB.size
  replace hB := hB.trans (hb.mono hB.size)
  dsimp only [ext, Option.getD] at hF
  repeat (first | with_reducible refine wp_seq ?_ | with_reducible refine nThen ?_ | with_reducible refine nBlk ?_ | with_reducible refine wp_skip ?_ | with_reducible refine wp_block ?_ | with_reducible refine wp_exit ?_ | with_reducible refine xThen ?_ | with_reducible refine xHere ?_ | with_reducible refine xFar (by decide) ?_ | with_reducible refine wp_ret ?_ | with_reducible refine rThen ?_ | with_reducible refine rBlk ?_)
  refine cond_f hF rfl ?_
  repeat (first | with_reducible refine wp_seq ?_ | with_reducible refine nThen ?_ | with_reducible refine nBlk ?_ | with_reducible refine wp_skip ?_ | with_reducible refine wp_block ?_ | with_reducible refine wp_exit ?_ | with_reducible refine xThen ?_ | with_reducible refine xHere ?_ | with_reducible refine xFar (by decide) ?_ | with_reducible refine wp_ret ?_ | with_reducible refine rThen ?_ | with_reducible refine rBlk ?_)
  refine' reg_all hF ?_ mixed (by kernel_rfl) ?_
  rotate_left
  · repeat (first
        | exact Line.nil
        | (refine' Line.cons rfl (.no rfl rfl rfl rfl rfl rfl) ?_; rotate_left)
        | ((first | refine' Line.cons rfl (.run rfl rfl ?_) ?_ | refine' Line.cons rfl (.yes rfl rfl rfl rfl ?_) ?_)
           any_goals (first | exact cMove rfl rfl | exact cAssign rfl rfl | exact cNot rfl rfl | exact cLoadSum rfl (.t rfl) Tryd.underlying23 sizeA | exact cAdd (r := ((N + 3 : Nat) : Int)) rfl rfl rfl (by omega) | exact cCall3 rfl rfl rfl rfl p1 | exact cCall3 rfl rfl rfl rfl p2 | exact cPickT rfl rfl rfl | exact cPickF rfl rfl rfl | exact cLss rfl rfl rfl | exact cLeq rfl rfl rfl | exact cGtr rfl rfl rfl | exact cGeq rfl rfl rfl | exact cEql rfl rfl rfl | exact cNeq rfl rfl rfl | exact cExtract rfl rfl rfl)
           rotate_left))
  intro a w4 hF hb hN
  have hBs := hB.size
  replace hB := hB.trans (hb.mono hB.size)
  dsimp only [ext, Option.getD] at hF
  repeat (first | with_reducible refine wp_seq ?_ | with_reducible refine nThen ?_ | with_reducible refine nBlk ?_ | with_reducible refine wp_skip ?_ | with_reducible refine wp_block ?_ | with_reducible refine wp_exit ?_ | with_reducible refine xThen ?_ | with_reducible refine xHere ?_ | with_reducible refine xFar (by decide) ?_ | with_reducible refine wp_ret ?_ | with_reducible refine rThen ?_ | with_reducible refine rBlk ?_)
  refine' reg_all hF ?_ mixed (by kernel_rfl) ?_
  rotate_left
  · repeat (first
        | exact Line.nil
        | (refine' Line.cons rfl (.no rfl rfl rfl rfl rfl rfl) ?_; rotate_left)
        | ((first | refine' Line.cons rfl (.run rfl rfl ?_) ?_ | refine' Line.cons rfl (.yes rfl rfl rfl rfl ?_) ?_)
           any_goals (first | exact cMove rfl rfl | exact cAssign rfl rfl | exact cNot rfl rfl | exact cLen rfl rfl (Ty.sl_isSl _ _ _) Tryd.underlying25 | exact OpOk.b (c := false) (cNeq rfl rfl rfl) rfl | exact cPickT rfl rfl rfl | exact cPickF rfl rfl rfl | exact cLss rfl rfl rfl | exact cLeq rfl rfl rfl | exact cGtr rfl rfl rfl | exact cGeq rfl rfl rfl | exact cEql rfl rfl rfl | exact cNeq rfl rfl rfl | exact cExtract rfl rfl rfl)
           rotate_left))
  intro a w5 hF hb hN
  have hBs := hB.size
  replace hB := hB.trans (hb.mono hB.size)
  dsimp only [ext, Option.getD] at hF
  repeat (first | with_reducible refine wp_seq ?_ | with_reducible refine nThen ?_ | with_reducible refine nBlk ?_ | with_reducible refine wp_skip ?_ | with_reducible refine wp_block ?_ | with_reducible refine wp_exit ?_ | with_reducible refine xThen ?_ | with_reducible refine xHere ?_ | with_reducible refine xFar (by decide) ?_ | with_reducible refine wp_ret ?_ | with_reducible refine rThen ?_ | with_reducible refine rBlk ?_)
  refine cond_f hF rfl ?_
  repeat (first | with_reducible refine wp_seq ?_ | with_reducible refine nThen ?_ | with_reducible refine nBlk ?_ | with_reducible refine wp_skip ?_ | with_reducible refine wp_block ?_ | with_reducible refine wp_exit ?_ | with_reducible refine xThen ?_ | with_reducible refine xHere ?_ | with_reducible refine xFar (by decide) ?_ | with_reducible refine wp_ret ?_ | with_reducible refine rThen ?_ | with_reducible refine rBlk ?_)
  have hT5 := hT.below hB
  refine' reg_all hF ?_ mixed (by kernel_rfl) ?_
  rotate_left
  · repeat (first
        | exact Line.nil
        | (refine' Line.cons rfl (.no rfl rfl rfl rfl rfl rfl) ?_; rotate_left)
        | ((first | refine' Line.cons rfl (.run rfl rfl ?_) ?_ | refine' Line.cons rfl (.yes rfl rfl rfl rfl ?_) ?_)
           any_goals (first | exact cMove rfl rfl | exact cAssign rfl rfl | exact cNot rfl rfl | exact cIndexS (k := 0) (sz := 1) rfl (.t rfl) rfl Tryd.underlying25 sizeI (by simp) (by simp) | exact cIndexS (k := 1) (sz := 1) rfl (.t rfl) rfl Tryd.underlying25 sizeI (by simp) (by simp) | exact cIndexS (k := 2) (sz := 1) rfl (.t rfl) rfl Tryd.underlying25 sizeI (by simp) (by simp) | exact cLoad1 rfl (.t rfl) (pts_at _ _) Tryd.underlying3 rfl | exact cLoadSum rfl (.t rfl) Tryd.underlying23 sizeA | exact OpOk.b (c := true) (cLss rfl rfl rfl) (decide_eq_true (by omega)) | exact OpOk.b (c := true) (cGeq rfl rfl rfl) (decide_eq_true (by omega)) | exact cAdd (r := ((N + 3 : Nat) : Int)) rfl rfl rfl (by omega) | exact cCallX1 (f := 12) (v := .agg (u8s x.l)) rfl rfl heL (fun W' hb => hL W' (hT5.below hb)) | exact cPickT rfl rfl rfl | exact cPickF rfl rfl rfl | exact cLss rfl rfl rfl | exact cLeq rfl rfl rfl | exact cGtr rfl rfl rfl | exact cGeq rfl rfl rfl | exact cEql rfl rfl rfl | exact cNeq rfl rfl rfl | exact cExtract rfl rfl rfl)
           rotate_left))
  intro a w6 hF hb hN
  have hBs := hB.size
  replace hB := hB.trans (hb.mono hB.size)
  dsimp only [ext, Option.getD] at hF
  repeat (first | with_reducible refine wp_seq ?_ | with_reducible refine nThen ?_ | with_reducible refine nBlk ?_ | with_reducible refine wp_skip ?_ | with_reducible refine wp_block ?_ | with_reducible refine wp_exit ?_ | with_reducible refine xThen ?_ | with_reducible refine xHere ?_ | with_reducible refine xFar (by decide) ?_ | with_reducible refine wp_ret ?_ | with_reducible refine rThen ?_ | with_reducible refine rBlk ?_)
  refine ret1 hF rfl rfl fun z hz => ?_
  exact ⟨by rw [show z = .bool true from hz], hB⟩
end Go.Proofs.YtofekkhhminkhaaDoor
