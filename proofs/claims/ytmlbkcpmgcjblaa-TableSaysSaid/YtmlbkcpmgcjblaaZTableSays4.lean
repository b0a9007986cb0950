/- Joined: SetG, SetP, PlaceH, TabG, TabH, PlaceI, PlaceJ, PlaceK, TabI, TabJ. -/
import Derived.Lib.SlBytesConst
import Derived.Test.YtmlbkcpmgcjblaaZTableSays3
/- Layer 10: the walks of Compact, Of. -/
namespace Go.Proofs.Ytmlbkcpmgcjblaa
open Go.RowKit

/-- The first m, of alike neighbours only the first. -/
def ddL (D : List Sm) : Nat → List Sm
  | 0 => []
  | m + 1 => if m = 0 ∨ ¬ D.getD m default = D.getD (m - 1) default then ddL D m ++ [D.getD m default] else ddL D m
theorem ddL_le (D : List Sm) : ∀ m, (ddL D m).length ≤ m
  | 0 => Nat.le_refl _
  | m + 1 => by
    have := ddL_le D m
    unfold ddL
    split
    · simp; omega
    · omega
theorem ddL_new {D : List Sm} {m : Nat} (h : m = 0 ∨ ¬ D.getD m default = D.getD (m - 1) default) : ddL D (m + 1) = ddL D m ++ [D.getD m default] := by
  rw [ddL, if_pos h]
theorem ddL_old {D : List Sm} {m : Nat} (h0 : m ≠ 0) (h : D.getD m default = D.getD (m - 1) default) : ddL D (m + 1) = ddL D m := by
  rw [ddL, if_neg (by rintro (h1 | h1); exact h0 h1; exact h1 h)]
theorem take_snoc' (D : List Sm) {m : Nat} (h : m < D.length) : D.take (m + 1) = D.take m ++ [D.getD m default] := by
  rw [List.take_succ_eq_append_getElem h]
  simp [List.getD, List.getElem?_eq_getElem h]
theorem getD_set (D : List Sm) {i j : Nat} (x : Sm) (hi : i < D.length) : (D.set i x).getD j default = if i = j then x else D.getD j default := by
  simp only [List.getD, List.getElem?_set]
  by_cases h : i = j
  · subst h; simp [hi]
  · simp [h]
theorem getD_drop (D : List Sm) (k j : Nat) : (D.drop k).getD j default = D.getD (k + j) default := by
  simp [List.getD, List.getElem?_drop]

set_option maxRecDepth 100000 in
set_option maxHeartbeats 2000000 in
theorem compact_any (D : List Sm) (w : World) (g off cap : Nat) (hs0 : SegL w 34 32 g off D.length cap (flat D)) (hD : D.length ≤ 1000000) :
    Calls Try.prog 67 #[.slice (some ⟨g, off, none⟩) D.length cap] w fun e w' => ∃ k, e = .returned (.slice (some ⟨g, off, none⟩) k cap) ∧ k = (ddL D D.length).length ∧ SegL w' 34 32 g off k cap (flat (ddL D D.length)) ∧ Keeps [g] w w' := by
  have hcap : D.length ≤ cap := hs0.2.1
  refine enter_ty 61 [Ty.ex (.slice (some ⟨g, off, none⟩) D.length cap)] Try.func67 rfl (by kernel_rfl) ⟨rfl, trivial⟩ fun a hF => ?_
  have hB := Below.refl w.heap.size w
  repeat (first | with_reducible refine wp_seq ?_ | with_reducible refine nThen ?_ | with_reducible refine nBlk ?_ | with_reducible refine wp_skip ?_ | with_reducible refine wp_block ?_ | with_reducible refine wp_exit ?_ | with_reducible refine xThen ?_ | with_reducible refine xHere ?_ | with_reducible refine xFar (by decide) ?_ | with_reducible refine wp_ret ?_ | with_reducible refine rThen ?_ | with_reducible refine rBlk ?_)
  refine' reg_all hF ?_ mixed (by kernel_rfl) ?_
  rotate_left
  · repeat (first
        | exact Line.nil
        | (refine' Line.cons rfl (.no rfl rfl rfl rfl rfl rfl) ?_; rotate_left)
        | ((first | refine' Line.cons rfl (.run rfl rfl ?_) ?_ | refine' Line.cons rfl (.yes rfl rfl rfl rfl ?_) ?_)
           any_goals (first | exact cMove rfl rfl | exact cAssign rfl rfl | exact cPickT rfl rfl rfl | exact cPickF rfl rfl rfl | exact cNot rfl rfl | exact cLss rfl rfl rfl | exact cLeq rfl rfl rfl | exact cGtr rfl rfl rfl | exact cGeq rfl rfl rfl | exact cEql rfl rfl rfl | exact cNeq rfl rfl rfl | exact cExtract rfl rfl rfl)
           rotate_left))
  intro a w1 hF hb hN
  have hBs := hB.size
  replace hB := hB.trans (hb.mono hB.size)
  dsimp only [ext, Option.getD] at hF
  repeat (first | with_reducible refine wp_seq ?_ | with_reducible refine nThen ?_ | with_reducible refine nBlk ?_ | with_reducible refine wp_skip ?_ | with_reducible refine wp_block ?_ | with_reducible refine wp_exit ?_ | with_reducible refine xThen ?_ | with_reducible refine xHere ?_ | with_reducible refine xFar (by decide) ?_ | with_reducible refine wp_ret ?_ | with_reducible refine rThen ?_ | with_reducible refine rBlk ?_)
  refine' reg_all hF ?_ mixed (by kernel_rfl) ?_
  rotate_left
  · repeat (first
        | exact Line.nil
        | (refine' Line.cons rfl (.no rfl rfl rfl rfl rfl rfl) ?_; rotate_left)
        | ((first | refine' Line.cons rfl (.run rfl rfl ?_) ?_ | refine' Line.cons rfl (.yes rfl rfl rfl rfl ?_) ?_)
           any_goals (first | exact cLenEx rfl rfl Try.underlying24 | exact cMove rfl rfl | exact cAssign rfl rfl | exact cPickT rfl rfl rfl | exact cPickF rfl rfl rfl | exact cNot rfl rfl | exact cLss rfl rfl rfl | exact cLeq rfl rfl rfl | exact cGtr rfl rfl rfl | exact cGeq rfl rfl rfl | exact cEql rfl rfl rfl | exact cNeq rfl rfl rfl | exact cExtract rfl rfl rfl)
           rotate_left))
  intro a w2 hF hb hN
  have hBs := hB.size
  replace hB := hB.trans (hb.mono hB.size)
  dsimp only [ext, Option.getD] at hF
  repeat (first | with_reducible refine wp_seq ?_ | with_reducible refine nThen ?_ | with_reducible refine nBlk ?_ | with_reducible refine wp_skip ?_ | with_reducible refine wp_block ?_ | with_reducible refine wp_exit ?_ | with_reducible refine xThen ?_ | with_reducible refine xHere ?_ | with_reducible refine xFar (by decide) ?_ | with_reducible refine wp_ret ?_ | with_reducible refine rThen ?_ | with_reducible refine rBlk ?_)
  refine cond_ty hF rfl (fun h0 => ?_) (fun h1 => ?_)
  · have h0 := of_decide_eq_true h0
    have hdd : ddL D D.length = D := by
      match D, h0 with
      | [], _ => rfl
      | [x], _ => simp [ddL]
      | x :: y :: r, h => simp at h; omega
    repeat (first | with_reducible refine wp_seq ?_ | with_reducible refine nThen ?_ | with_reducible refine nBlk ?_ | with_reducible refine wp_skip ?_ | with_reducible refine wp_block ?_ | with_reducible refine wp_exit ?_ | with_reducible refine xThen ?_ | with_reducible refine xHere ?_ | with_reducible refine xFar (by decide) ?_ | with_reducible refine wp_ret ?_ | with_reducible refine rThen ?_ | with_reducible refine rBlk ?_)
    refine' reg_all hF ?_ mixed (by kernel_rfl) ?_
    rotate_left
    · repeat (first
          | exact Line.nil
          | (refine' Line.cons rfl (.no rfl rfl rfl rfl rfl rfl) ?_; rotate_left)
          | ((first | refine' Line.cons rfl (.run rfl rfl ?_) ?_ | refine' Line.cons rfl (.yes rfl rfl rfl rfl ?_) ?_)
             any_goals (first | exact cMove rfl rfl | exact cAssign rfl rfl | exact cPickT rfl rfl rfl | exact cPickF rfl rfl rfl | exact cNot rfl rfl | exact cLss rfl rfl rfl | exact cLeq rfl rfl rfl | exact cGtr rfl rfl rfl | exact cGeq rfl rfl rfl | exact cEql rfl rfl rfl | exact cNeq rfl rfl rfl | exact cExtract rfl rfl rfl)
             rotate_left))
    intro a w3 hF hb hN
    have hBs := hB.size
    replace hB := hB.trans (hb.mono hB.size)
    dsimp only [ext, Option.getD] at hF
    repeat (first | with_reducible refine wp_seq ?_ | with_reducible refine nThen ?_ | with_reducible refine nBlk ?_ | with_reducible refine wp_skip ?_ | with_reducible refine wp_block ?_ | with_reducible refine wp_exit ?_ | with_reducible refine xThen ?_ | with_reducible refine xHere ?_ | with_reducible refine xFar (by decide) ?_ | with_reducible refine wp_ret ?_ | with_reducible refine rThen ?_ | with_reducible refine rBlk ?_)
    refine ret1 hF rfl rfl fun z hz => ?_
    have hz : z = .slice (some ⟨g, off, none⟩) D.length cap := hz
    subst hz
    rw [hdd]
    exact ⟨D.length, rfl, rfl, hs0.below hB, Keeps.of_below hB⟩
  have h1 := of_decide_eq_false h1
  repeat (first | with_reducible refine wp_seq ?_ | with_reducible refine nThen ?_ | with_reducible refine nBlk ?_ | with_reducible refine wp_skip ?_ | with_reducible refine wp_block ?_ | with_reducible refine wp_exit ?_ | with_reducible refine xThen ?_ | with_reducible refine xHere ?_ | with_reducible refine xFar (by decide) ?_ | with_reducible refine wp_ret ?_ | with_reducible refine rThen ?_ | with_reducible refine rBlk ?_)
  refine' reg_all hF ?_ mixed (by kernel_rfl) ?_
  rotate_left
  · repeat (first
        | exact Line.nil
        | (refine' Line.cons rfl (.no rfl rfl rfl rfl rfl rfl) ?_; rotate_left)
        | ((first | refine' Line.cons rfl (.run rfl rfl ?_) ?_ | refine' Line.cons rfl (.yes rfl rfl rfl rfl ?_) ?_)
           any_goals (first | exact cMove rfl rfl | exact cAssign rfl rfl | exact cPickT rfl rfl rfl | exact cPickF rfl rfl rfl | exact cNot rfl rfl | exact cLss rfl rfl rfl | exact cLeq rfl rfl rfl | exact cGtr rfl rfl rfl | exact cGeq rfl rfl rfl | exact cEql rfl rfl rfl | exact cNeq rfl rfl rfl | exact cExtract rfl rfl rfl)
           rotate_left))
  intro a w3 hF hb hN
  have hBs := hB.size
  replace hB := hB.trans (hb.mono hB.size)
  dsimp only [ext, Option.getD] at hF
  repeat (first | with_reducible refine wp_seq ?_ | with_reducible refine nThen ?_ | with_reducible refine nBlk ?_ | with_reducible refine wp_skip ?_ | with_reducible refine wp_block ?_ | with_reducible refine wp_exit ?_ | with_reducible refine xThen ?_ | with_reducible refine xHere ?_ | with_reducible refine xFar (by decide) ?_ | with_reducible refine wp_ret ?_ | with_reducible refine rThen ?_ | with_reducible refine rBlk ?_)
  refine loop_ty (fun m a wr => ∃ k : Nat, k + m = D.length ∧ 1 ≤ k ∧ Fr 61 [(0, Ty.ex (.slice (some ⟨g, off, none⟩) D.length cap)), (3, Ty.ex (.int .i64 (k : Int)))] a wr ∧ Below w.heap.size w wr ∧ ddL D k = D.take k) (D.length - 1) ?_ ?_
  · refine ⟨1, by omega, Nat.le_refl _, hF.keep [0, 3], hB, ?_⟩
    rw [ddL_new (.inl rfl), take_snoc' D (by omega)]
    rfl
  clear hF hB
  rintro m a wr ⟨k, hk, hk1, hF, hB, hdd⟩
  repeat (first | with_reducible refine wp_seq ?_ | with_reducible refine nThen ?_ | with_reducible refine nBlk ?_ | with_reducible refine wp_skip ?_ | with_reducible refine wp_block ?_ | with_reducible refine wp_exit ?_ | with_reducible refine xThen ?_ | with_reducible refine xHere ?_ | with_reducible refine xFar (by decide) ?_ | with_reducible refine wp_ret ?_ | with_reducible refine rThen ?_ | with_reducible refine rBlk ?_)
  refine' reg_all hF ?_ mixed (by kernel_rfl) ?_
  rotate_left
  · repeat (first
        | exact Line.nil
        | (refine' Line.cons rfl (.no rfl rfl rfl rfl rfl rfl) ?_; rotate_left)
        | ((first | refine' Line.cons rfl (.run rfl rfl ?_) ?_ | refine' Line.cons rfl (.yes rfl rfl rfl rfl ?_) ?_)
           any_goals (first | exact cLenEx rfl rfl Try.underlying24 | exact cMove rfl rfl | exact cAssign rfl rfl | exact cPickT rfl rfl rfl | exact cPickF rfl rfl rfl | exact cNot rfl rfl | exact cLss rfl rfl rfl | exact cLeq rfl rfl rfl | exact cGtr rfl rfl rfl | exact cGeq rfl rfl rfl | exact cEql rfl rfl rfl | exact cNeq rfl rfl rfl | exact cExtract rfl rfl rfl)
           rotate_left))
  intro a w4 hF hb hN
  have hBs := hB.size
  replace hB := hB.trans (hb.mono hB.size)
  dsimp only [ext, Option.getD] at hF
  repeat (first | with_reducible refine wp_seq ?_ | with_reducible refine nThen ?_ | with_reducible refine nBlk ?_ | with_reducible refine wp_skip ?_ | with_reducible refine wp_block ?_ | with_reducible refine wp_exit ?_ | with_reducible refine xThen ?_ | with_reducible refine xHere ?_ | with_reducible refine xFar (by decide) ?_ | with_reducible refine wp_ret ?_ | with_reducible refine rThen ?_ | with_reducible refine rBlk ?_)
  refine cond_ty hF rfl (fun hlt => ?_) (fun hge => ?_)
  rotate_left
  · have hge : ¬ k < D.length := by simpa using hge
    obtain rfl : k = D.length := by omega
    rw [List.take_length] at hdd
    repeat (first | with_reducible refine wp_seq ?_ | with_reducible refine nThen ?_ | with_reducible refine nBlk ?_ | with_reducible refine wp_skip ?_ | with_reducible refine wp_block ?_ | with_reducible refine wp_exit ?_ | with_reducible refine xThen ?_ | with_reducible refine xHere ?_ | with_reducible refine xFar (by decide) ?_ | with_reducible refine wp_ret ?_ | with_reducible refine rThen ?_ | with_reducible refine rBlk ?_)
    refine' reg_all hF ?_ mixed (by kernel_rfl) ?_
    rotate_left
    · repeat (first
          | exact Line.nil
          | (refine' Line.cons rfl (.no rfl rfl rfl rfl rfl rfl) ?_; rotate_left)
          | ((first | refine' Line.cons rfl (.run rfl rfl ?_) ?_ | refine' Line.cons rfl (.yes rfl rfl rfl rfl ?_) ?_)
             any_goals (first | exact cMove rfl rfl | exact cAssign rfl rfl | exact cPickT rfl rfl rfl | exact cPickF rfl rfl rfl | exact cNot rfl rfl | exact cLss rfl rfl rfl | exact cLeq rfl rfl rfl | exact cGtr rfl rfl rfl | exact cGeq rfl rfl rfl | exact cEql rfl rfl rfl | exact cNeq rfl rfl rfl | exact cExtract rfl rfl rfl)
             rotate_left))
    intro a w5 hF hb hN
    have hBs := hB.size
    replace hB := hB.trans (hb.mono hB.size)
    dsimp only [ext, Option.getD] at hF
    repeat (first | with_reducible refine wp_seq ?_ | with_reducible refine nThen ?_ | with_reducible refine nBlk ?_ | with_reducible refine wp_skip ?_ | with_reducible refine wp_block ?_ | with_reducible refine wp_exit ?_ | with_reducible refine xThen ?_ | with_reducible refine xHere ?_ | with_reducible refine xFar (by decide) ?_ | with_reducible refine wp_ret ?_ | with_reducible refine rThen ?_ | with_reducible refine rBlk ?_)
    refine ret1 hF rfl rfl fun z hz => ?_
    have hz : z = .slice (some ⟨g, off, none⟩) D.length cap := hz
    subst hz
    rw [hdd]
    exact ⟨D.length, rfl, rfl, hs0.below hB, Keeps.of_below hB⟩
  have hlt : k < D.length := by simpa using hlt
  have hsl : (Ty.sums 34 D).p w4 (.slice (some ⟨g, off, none⟩) D.length cap) := (hs0.below hB).sl
  repeat (first | with_reducible refine wp_seq ?_ | with_reducible refine nThen ?_ | with_reducible refine nBlk ?_ | with_reducible refine wp_skip ?_ | with_reducible refine wp_block ?_ | with_reducible refine wp_exit ?_ | with_reducible refine xThen ?_ | with_reducible refine xHere ?_ | with_reducible refine xFar (by decide) ?_ | with_reducible refine wp_ret ?_ | with_reducible refine rThen ?_ | with_reducible refine rBlk ?_)
  refine' reg_all hF ?_ mixed (by kernel_rfl) ?_
  rotate_left
  · repeat (first
        | exact Line.nil
        | (refine' Line.cons rfl (.no rfl rfl rfl rfl rfl rfl) ?_; rotate_left)
        | ((first | refine' Line.cons rfl (.run rfl rfl ?_) ?_ | refine' Line.cons rfl (.yes rfl rfl rfl rfl ?_) ?_)
           any_goals (first | exact cSub (r := ((k - 1 : Nat) : Int)) rfl rfl rfl (by omega) | exact cIndexSum (k := k - 1) rfl (.l rfl hsl) rfl Try.underlying24 sizeS (by omega) | exact cIndexSum (k := k) rfl (.l rfl hsl) rfl Try.underlying24 sizeS hlt | exact cLoadSum rfl (.t rfl) Try.underlying34 sizeS | exact cEqlAgg rfl rfl rfl guardS (eqlS _ _) | exact cMove rfl rfl | exact cAssign rfl rfl | exact cPickT rfl rfl rfl | exact cPickF rfl rfl rfl | exact cNot rfl rfl | exact cLss rfl rfl rfl | exact cLeq rfl rfl rfl | exact cGtr rfl rfl rfl | exact cGeq rfl rfl rfl | exact cEql rfl rfl rfl | exact cNeq rfl rfl rfl | exact cExtract rfl rfl rfl)
           rotate_left))
  intro a w5 hF hb hN
  have hBs := hB.size
  replace hB := hB.trans (hb.mono hB.size)
  dsimp only [ext, Option.getD] at hF
  repeat (first | with_reducible refine wp_seq ?_ | with_reducible refine nThen ?_ | with_reducible refine nBlk ?_ | with_reducible refine wp_skip ?_ | with_reducible refine wp_block ?_ | with_reducible refine wp_exit ?_ | with_reducible refine xThen ?_ | with_reducible refine xHere ?_ | with_reducible refine xFar (by decide) ?_ | with_reducible refine wp_ret ?_ | with_reducible refine rThen ?_ | with_reducible refine rBlk ?_)
  refine cond_ty hF rfl (fun hdup => ?_) (fun hnew => ?_)
  rotate_left
  · have hnew : ¬ D.getD k default = D.getD (k - 1) default := by simpa using hnew
    repeat (first | with_reducible refine wp_seq ?_ | with_reducible refine nThen ?_ | with_reducible refine nBlk ?_ | with_reducible refine wp_skip ?_ | with_reducible refine wp_block ?_ | with_reducible refine wp_exit ?_ | with_reducible refine xThen ?_ | with_reducible refine xHere ?_ | with_reducible refine xFar (by decide) ?_ | with_reducible refine wp_ret ?_ | with_reducible refine rThen ?_ | with_reducible refine rBlk ?_)
    refine' reg_all hF ?_ mixed (by kernel_rfl) ?_
    rotate_left
    · repeat (first
          | exact Line.nil
          | (refine' Line.cons rfl (.no rfl rfl rfl rfl rfl rfl) ?_; rotate_left)
          | ((first | refine' Line.cons rfl (.run rfl rfl ?_) ?_ | refine' Line.cons rfl (.yes rfl rfl rfl rfl ?_) ?_)
             any_goals (first | exact cAdd (r := ((k + 1 : Nat) : Int)) rfl rfl rfl (by omega) | exact cMove rfl rfl | exact cAssign rfl rfl | exact cPickT rfl rfl rfl | exact cPickF rfl rfl rfl | exact cNot rfl rfl | exact cLss rfl rfl rfl | exact cLeq rfl rfl rfl | exact cGtr rfl rfl rfl | exact cGeq rfl rfl rfl | exact cEql rfl rfl rfl | exact cNeq rfl rfl rfl | exact cExtract rfl rfl rfl)
             rotate_left))
    intro a w6 hF hb hN
    have hBs := hB.size
    replace hB := hB.trans (hb.mono hB.size)
    dsimp only [ext, Option.getD] at hF
    repeat (first | with_reducible refine wp_seq ?_ | with_reducible refine nThen ?_ | with_reducible refine nBlk ?_ | with_reducible refine wp_skip ?_ | with_reducible refine wp_block ?_ | with_reducible refine wp_exit ?_ | with_reducible refine xThen ?_ | with_reducible refine xHere ?_ | with_reducible refine xFar (by decide) ?_ | with_reducible refine wp_ret ?_ | with_reducible refine rThen ?_ | with_reducible refine rBlk ?_)
    refine ⟨m - 1, by omega, k + 1, by omega, by omega, hF.keep [0, 3], hB, ?_⟩
    rw [ddL_new (.inr hnew), hdd, take_snoc' D hlt]
  have hdup : D.getD k default = D.getD (k - 1) default := by simpa using hdup
  repeat (first | with_reducible refine wp_seq ?_ | with_reducible refine nThen ?_ | with_reducible refine nBlk ?_ | with_reducible refine wp_skip ?_ | with_reducible refine wp_block ?_ | with_reducible refine wp_exit ?_ | with_reducible refine xThen ?_ | with_reducible refine xHere ?_ | with_reducible refine xFar (by decide) ?_ | with_reducible refine wp_ret ?_ | with_reducible refine rThen ?_ | with_reducible refine rBlk ?_)
  refine' reg_all hF ?_ mixed (by kernel_rfl) ?_
  rotate_left
  · repeat (first
        | exact Line.nil
        | (refine' Line.cons rfl (.no rfl rfl rfl rfl rfl rfl) ?_; rotate_left)
        | ((first | refine' Line.cons rfl (.run rfl rfl ?_) ?_ | refine' Line.cons rfl (.yes rfl rfl rfl rfl ?_) ?_)
           any_goals (first | exact cSliceLoEx rfl rfl rfl Try.underlying24 sizeS hlt hcap | exact cMove rfl rfl | exact cAssign rfl rfl | exact cPickT rfl rfl rfl | exact cPickF rfl rfl rfl | exact cNot rfl rfl | exact cLss rfl rfl rfl | exact cLeq rfl rfl rfl | exact cGtr rfl rfl rfl | exact cGeq rfl rfl rfl | exact cEql rfl rfl rfl | exact cNeq rfl rfl rfl | exact cExtract rfl rfl rfl)
           rotate_left))
  intro a w6 hF hb hN
  have hBs := hB.size
  replace hB := hB.trans (hb.mono hB.size)
  dsimp only [ext, Option.getD] at hF
  repeat (first | with_reducible refine wp_seq ?_ | with_reducible refine nThen ?_ | with_reducible refine nBlk ?_ | with_reducible refine wp_skip ?_ | with_reducible refine wp_block ?_ | with_reducible refine wp_exit ?_ | with_reducible refine xThen ?_ | with_reducible refine xHere ?_ | with_reducible refine xFar (by decide) ?_ | with_reducible refine wp_ret ?_ | with_reducible refine rThen ?_ | with_reducible refine rBlk ?_)
  refine' reg_all hF ?_ mixed (by kernel_rfl) ?_
  rotate_left
  · repeat (first
        | exact Line.nil
        | (refine' Line.cons rfl (.no rfl rfl rfl rfl rfl rfl) ?_; rotate_left)
        | ((first | refine' Line.cons rfl (.run rfl rfl ?_) ?_ | refine' Line.cons rfl (.yes rfl rfl rfl rfl ?_) ?_)
           any_goals (first | exact cMove rfl rfl | exact cAssign rfl rfl | exact cPickT rfl rfl rfl | exact cPickF rfl rfl rfl | exact cNot rfl rfl | exact cLss rfl rfl rfl | exact cLeq rfl rfl rfl | exact cGtr rfl rfl rfl | exact cGeq rfl rfl rfl | exact cEql rfl rfl rfl | exact cNeq rfl rfl rfl | exact cExtract rfl rfl rfl)
           rotate_left))
  intro a w7 hF hb hN
  have hBs := hB.size
  replace hB := hB.trans (hb.mono hB.size)
  dsimp only [ext, Option.getD] at hF
  repeat (first | with_reducible refine wp_seq ?_ | with_reducible refine nThen ?_ | with_reducible refine nBlk ?_ | with_reducible refine wp_skip ?_ | with_reducible refine wp_block ?_ | with_reducible refine wp_exit ?_ | with_reducible refine xThen ?_ | with_reducible refine xHere ?_ | with_reducible refine xFar (by decide) ?_ | with_reducible refine wp_ret ?_ | with_reducible refine rThen ?_ | with_reducible refine rBlk ?_)
  refine loop_ty (fun m a wr => ∃ (q j : Nat) (E : List Sm), k + q + m = D.length ∧ 1 ≤ q ∧ E.length = D.length ∧ j = (ddL D (k + q)).length ∧ j ≤ k + q - 1 ∧ E.take j = ddL D (k + q) ∧ (∀ i, k + q - 1 ≤ i → E.getD i default = D.getD i default) ∧
      Fr 61 [(0, Ty.ex (.slice (some ⟨g, off, none⟩) D.length cap)), (4, Ty.ex (.slice (some ⟨g, off + k * 32, none⟩) (D.length - k) (cap - k))), (3, Ty.ex (.int .i64 (j : Int))), (5, Ty.ex (.int .i64 (q : Int)))] a wr ∧ SegL wr 34 32 g off D.length cap (flat E) ∧ Keeps [g] w wr) (D.length - (k + 1)) ?_ ?_
  · refine ⟨1, k, D, by omega, Nat.le_refl _, rfl, ?_, by omega, ?_, fun i _ => rfl, hF.keep [0, 4, 3, 5], hs0.below hB, Keeps.of_below hB⟩
    · rw [ddL_old (by omega) hdup, hdd]; simp; omega
    · rw [ddL_old (by omega) hdup, hdd]
  clear hF hB hsl hs0
  rintro m a wr ⟨q, j, E, hq, hq1, hE, hj, hjle, hjt, hsame, hF, hseg, hKw⟩
  have hB := Below.refl wr.heap.size wr
  have hs2 : (Ty.sums 34 (E.drop k)).p wr (.slice (some ⟨g, off + k * 32, none⟩) (D.length - k) (cap - k)) := by
    have h := hseg.drop_sl (k := k) (by omega)
    rw [flat_drop] at h
    show SlP _ _ _ (E.drop k).length _
    rw [List.length_drop, hE]
    exact h
  repeat (first | with_reducible refine wp_seq ?_ | with_reducible refine nThen ?_ | with_reducible refine nBlk ?_ | with_reducible refine wp_skip ?_ | with_reducible refine wp_block ?_ | with_reducible refine wp_exit ?_ | with_reducible refine xThen ?_ | with_reducible refine xHere ?_ | with_reducible refine xFar (by decide) ?_ | with_reducible refine wp_ret ?_ | with_reducible refine rThen ?_ | with_reducible refine rBlk ?_)
  refine' reg_all hF ?_ mixed (by kernel_rfl) ?_
  rotate_left
  · repeat (first
        | exact Line.nil
        | (refine' Line.cons rfl (.no rfl rfl rfl rfl rfl rfl) ?_; rotate_left)
        | ((first | refine' Line.cons rfl (.run rfl rfl ?_) ?_ | refine' Line.cons rfl (.yes rfl rfl rfl rfl ?_) ?_)
           any_goals (first | exact cLenEx rfl rfl Try.underlying24 | exact cMove rfl rfl | exact cAssign rfl rfl | exact cPickT rfl rfl rfl | exact cPickF rfl rfl rfl | exact cNot rfl rfl | exact cLss rfl rfl rfl | exact cLeq rfl rfl rfl | exact cGtr rfl rfl rfl | exact cGeq rfl rfl rfl | exact cEql rfl rfl rfl | exact cNeq rfl rfl rfl | exact cExtract rfl rfl rfl)
           rotate_left))
  intro a w8 hF hb hN
  have hBs := hB.size
  replace hB := hB.trans (hb.mono hB.size)
  dsimp only [ext, Option.getD] at hF
  repeat (first | with_reducible refine wp_seq ?_ | with_reducible refine nThen ?_ | with_reducible refine nBlk ?_ | with_reducible refine wp_skip ?_ | with_reducible refine wp_block ?_ | with_reducible refine wp_exit ?_ | with_reducible refine xThen ?_ | with_reducible refine xHere ?_ | with_reducible refine xFar (by decide) ?_ | with_reducible refine wp_ret ?_ | with_reducible refine rThen ?_ | with_reducible refine rBlk ?_)
  refine cond_ty hF rfl (fun hlt2 => ?_) (fun hge2 => ?_)
  rotate_left
  · have hge2 : ¬ q < D.length - k := by simpa using hge2
    have hend : k + q = D.length := by omega
    rw [hend] at hj hjt
    have hjn : j < D.length := by omega
    repeat (first | with_reducible refine wp_seq ?_ | with_reducible refine nThen ?_ | with_reducible refine nBlk ?_ | with_reducible refine wp_skip ?_ | with_reducible refine wp_block ?_ | with_reducible refine wp_exit ?_ | with_reducible refine xThen ?_ | with_reducible refine xHere ?_ | with_reducible refine xFar (by decide) ?_ | with_reducible refine wp_ret ?_ | with_reducible refine rThen ?_ | with_reducible refine rBlk ?_)
    refine' region_ty 3 mixed (by kernel_rfl) hF ?_ ?_
    rotate_left
    · simp only [List.take_succ_cons, List.take_zero]
      repeat (first
          | exact Line.nil
          | (refine' Line.cons rfl (.no rfl rfl rfl rfl rfl rfl) ?_; rotate_left)
          | ((first | refine' Line.cons rfl (.run rfl rfl ?_) ?_ | refine' Line.cons rfl (.yes rfl rfl rfl rfl ?_) ?_)
             any_goals (first | exact cSliceLoEx rfl rfl rfl Try.underlying24 sizeS hjn hcap | exact cMove rfl rfl | exact cAssign rfl rfl | exact cPickT rfl rfl rfl | exact cPickF rfl rfl rfl | exact cNot rfl rfl | exact cLss rfl rfl rfl | exact cLeq rfl rfl rfl | exact cGtr rfl rfl rfl | exact cGeq rfl rfl rfl | exact cEql rfl rfl rfl | exact cNeq rfl rfl rfl | exact cExtract rfl rfl rfl)
             rotate_left))
    intro a w9 hF hb hN
    have hBs := hB.size
    replace hB := hB.trans (hb.mono hB.size)
    simp only [List.take_succ_cons, List.take_zero, List.drop_succ_cons, List.drop_zero] at hF hN ⊢
    dsimp only [ext, Option.getD] at hF
    refine tlClear (Δ := [(0, Ty.ex (.slice (some ⟨g, off, none⟩) D.length cap)), (3, Ty.ex (.int .i64 (j : Int)))]) (k := j) hF rfl rfl rfl rfl Try.underlying24 infoS zero32_size zeroS_one (hseg.below hB) (by omega) (hF.keep [0, 3]) rfl ?_
    intro w10 zs hzl hF hseg2 hk2
    refine wpList_nil ?_
    repeat (first | with_reducible refine wp_seq ?_ | with_reducible refine nThen ?_ | with_reducible refine nBlk ?_ | with_reducible refine wp_skip ?_ | with_reducible refine wp_block ?_ | with_reducible refine wp_exit ?_ | with_reducible refine xThen ?_ | with_reducible refine xHere ?_ | with_reducible refine xFar (by decide) ?_ | with_reducible refine wp_ret ?_ | with_reducible refine rThen ?_ | with_reducible refine rBlk ?_)
    replace hKw : Keeps [g] w w10 := (hKw.trans (Keeps.of_below hB)).trans hk2
    have hB := Below.refl w10.heap.size w10
    refine' reg_all hF ?_ mixed (by kernel_rfl) ?_
    rotate_left
    · repeat (first
          | exact Line.nil
          | (refine' Line.cons rfl (.no rfl rfl rfl rfl rfl rfl) ?_; rotate_left)
          | ((first | refine' Line.cons rfl (.run rfl rfl ?_) ?_ | refine' Line.cons rfl (.yes rfl rfl rfl rfl ?_) ?_)
             any_goals (first | exact cSliceHiEx rfl rfl rfl Try.underlying24 sizeS (by omega) | exact cMove rfl rfl | exact cAssign rfl rfl | exact cPickT rfl rfl rfl | exact cPickF rfl rfl rfl | exact cNot rfl rfl | exact cLss rfl rfl rfl | exact cLeq rfl rfl rfl | exact cGtr rfl rfl rfl | exact cGeq rfl rfl rfl | exact cEql rfl rfl rfl | exact cNeq rfl rfl rfl | exact cExtract rfl rfl rfl)
             rotate_left))
    intro a w11 hF hb hN
    have hBs := hB.size
    replace hB := hB.trans (hb.mono hB.size)
    dsimp only [ext, Option.getD] at hF
    repeat (first | with_reducible refine wp_seq ?_ | with_reducible refine nThen ?_ | with_reducible refine nBlk ?_ | with_reducible refine wp_skip ?_ | with_reducible refine wp_block ?_ | with_reducible refine wp_exit ?_ | with_reducible refine xThen ?_ | with_reducible refine xHere ?_ | with_reducible refine xFar (by decide) ?_ | with_reducible refine wp_ret ?_ | with_reducible refine rThen ?_ | with_reducible refine rBlk ?_)
    refine ret1 hF rfl rfl fun z hz => ?_
    have hz : z = .slice (some ⟨g, off, none⟩) j cap := hz
    subst hz
    refine ⟨j, rfl, hj, ?_, hKw.trans (Keeps.of_below hB)⟩
    have h5 := (hseg2.below hB).take (k := j) (by omega)
    have h6 : (over (flat E) (j * 32) zs).take (j * 32) = flat (ddL D D.length) := by
      unfold over
      rw [List.append_assoc, List.take_append_of_le_length (by rw [List.length_take, flat_len]; omega), List.take_take, Nat.min_self, flat_take, hjt]
    rwa [h6] at h5
  have hlt2 : q < D.length - k := by simpa using hlt2
  have hs2' := (Ty.sums 34 (E.drop k)).below hs2 hB
  have e1 : (E.drop k).getD q default = D.getD (k + q) default := by rw [getD_drop]; exact hsame _ (by omega)
  have e2 : (E.drop k).getD (q - 1) default = D.getD (k + q - 1) default := by rw [getD_drop, show k + (q - 1) = k + q - 1 by omega]; exact hsame _ (by omega)
  repeat (first | with_reducible refine wp_seq ?_ | with_reducible refine nThen ?_ | with_reducible refine nBlk ?_ | with_reducible refine wp_skip ?_ | with_reducible refine wp_block ?_ | with_reducible refine wp_exit ?_ | with_reducible refine xThen ?_ | with_reducible refine xHere ?_ | with_reducible refine xFar (by decide) ?_ | with_reducible refine wp_ret ?_ | with_reducible refine rThen ?_ | with_reducible refine rBlk ?_)
  refine' reg_all hF ?_ mixed (by kernel_rfl) ?_
  rotate_left
  · repeat (first
        | exact Line.nil
        | (refine' Line.cons rfl (.no rfl rfl rfl rfl rfl rfl) ?_; rotate_left)
        | ((first | refine' Line.cons rfl (.run rfl rfl ?_) ?_ | refine' Line.cons rfl (.yes rfl rfl rfl rfl ?_) ?_)
           any_goals (first | exact cSub (r := ((q - 1 : Nat) : Int)) rfl rfl rfl (by omega) | exact cIndexSum (k := q - 1) rfl (.l rfl hs2') rfl Try.underlying24 sizeS (by simp; omega) | exact cIndexSum (k := q) rfl (.l rfl hs2') rfl Try.underlying24 sizeS (by simp; omega) | exact cLoadSum rfl (.t rfl) Try.underlying34 sizeS | exact cNeqAgg rfl rfl rfl guardS (neqS _ _) | exact cMove rfl rfl | exact cAssign rfl rfl | exact cPickT rfl rfl rfl | exact cPickF rfl rfl rfl | exact cNot rfl rfl | exact cLss rfl rfl rfl | exact cLeq rfl rfl rfl | exact cGtr rfl rfl rfl | exact cGeq rfl rfl rfl | exact cEql rfl rfl rfl | exact cNeq rfl rfl rfl | exact cExtract rfl rfl rfl)
           rotate_left))
  intro a w9 hF hb hN
  have hBs := hB.size
  replace hB := hB.trans (hb.mono hB.size)
  dsimp only [ext, Option.getD] at hF
  repeat (first | with_reducible refine wp_seq ?_ | with_reducible refine nThen ?_ | with_reducible refine nBlk ?_ | with_reducible refine wp_skip ?_ | with_reducible refine wp_block ?_ | with_reducible refine wp_exit ?_ | with_reducible refine xThen ?_ | with_reducible refine xHere ?_ | with_reducible refine xFar (by decide) ?_ | with_reducible refine wp_ret ?_ | with_reducible refine rThen ?_ | with_reducible refine rBlk ?_)
  rw [e1, e2] at hF
  refine cond_ty hF rfl (fun hnew => ?_) (fun hold => ?_)
  · have hnew : ¬ D.getD (k + q) default = D.getD (k + q - 1) default := by simpa using hnew
    have hs3 := (Ty.sums 34 (E.drop k)).below hs2 hB
    repeat (first | with_reducible refine wp_seq ?_ | with_reducible refine nThen ?_ | with_reducible refine nBlk ?_ | with_reducible refine wp_skip ?_ | with_reducible refine wp_block ?_ | with_reducible refine wp_exit ?_ | with_reducible refine xThen ?_ | with_reducible refine xHere ?_ | with_reducible refine xFar (by decide) ?_ | with_reducible refine wp_ret ?_ | with_reducible refine rThen ?_ | with_reducible refine rBlk ?_)
    refine' region_ty 7 mixed (by kernel_rfl) hF ?_ ?_
    rotate_left
    · simp only [List.take_succ_cons, List.take_zero]
      repeat (first
          | exact Line.nil
          | (refine' Line.cons rfl (.no rfl rfl rfl rfl rfl rfl) ?_; rotate_left)
          | ((first | refine' Line.cons rfl (.run rfl rfl ?_) ?_ | refine' Line.cons rfl (.yes rfl rfl rfl rfl ?_) ?_)
             any_goals (first | exact cIndexSum (k := q) rfl (.l rfl hs3) rfl Try.underlying24 sizeS (by simp; omega) | exact cLoadSum rfl (.t rfl) Try.underlying34 sizeS | exact cIndexEx (k := j) rfl rfl rfl Try.underlying24 sizeS (by omega) | exact cMove rfl rfl | exact cAssign rfl rfl | exact cPickT rfl rfl rfl | exact cPickF rfl rfl rfl | exact cNot rfl rfl | exact cLss rfl rfl rfl | exact cLeq rfl rfl rfl | exact cGtr rfl rfl rfl | exact cGeq rfl rfl rfl | exact cEql rfl rfl rfl | exact cNeq rfl rfl rfl | exact cExtract rfl rfl rfl)
             rotate_left))
    intro a w10 hF hb hN
    have hBs := hB.size
    replace hB := hB.trans (hb.mono hB.size)
    simp only [List.take_succ_cons, List.take_zero, List.drop_succ_cons, List.drop_zero] at hF hN ⊢
    dsimp only [ext, Option.getD] at hF
    rw [e1] at hF
    refine tlStoreAt (Δ := [(0, Ty.ex (.slice (some ⟨g, off, none⟩) D.length cap)), (4, Ty.ex (.slice (some ⟨g, off + k * 32, none⟩) (D.length - k) (cap - k))), (3, Ty.ex (.int .i64 (j : Int))), (5, Ty.ex (.int .i64 (q : Int)))]) (k := j * 32) hF rfl rfl rfl rfl rfl (hseg.below hB) (by rw [u8s_size, Sm.len]; omega) (by rw [u8s_size, Sm.len]; exact sizeS) (u8s_one _) (hF.keep [0, 4, 3, 5]) rfl ?_
    intro w11 hF hseg2 hk2
    refine wpList_nil ?_
    repeat (first | with_reducible refine wp_seq ?_ | with_reducible refine nThen ?_ | with_reducible refine nBlk ?_ | with_reducible refine wp_skip ?_ | with_reducible refine wp_block ?_ | with_reducible refine wp_exit ?_ | with_reducible refine xThen ?_ | with_reducible refine xHere ?_ | with_reducible refine xFar (by decide) ?_ | with_reducible refine wp_ret ?_ | with_reducible refine rThen ?_ | with_reducible refine rBlk ?_)
    replace hKw : Keeps [g] w w11 := (hKw.trans (Keeps.of_below hB)).trans hk2
    have hB := Below.refl w11.heap.size w11
    refine' reg_all hF ?_ mixed (by kernel_rfl) ?_
    rotate_left
    · repeat (first
          | exact Line.nil
          | (refine' Line.cons rfl (.no rfl rfl rfl rfl rfl rfl) ?_; rotate_left)
          | ((first | refine' Line.cons rfl (.run rfl rfl ?_) ?_ | refine' Line.cons rfl (.yes rfl rfl rfl rfl ?_) ?_)
             any_goals (first | exact cAdd (r := ((j + 1 : Nat) : Int)) rfl rfl rfl (by omega) | exact cMove rfl rfl | exact cAssign rfl rfl | exact cPickT rfl rfl rfl | exact cPickF rfl rfl rfl | exact cNot rfl rfl | exact cLss rfl rfl rfl | exact cLeq rfl rfl rfl | exact cGtr rfl rfl rfl | exact cGeq rfl rfl rfl | exact cEql rfl rfl rfl | exact cNeq rfl rfl rfl | exact cExtract rfl rfl rfl)
             rotate_left))
    intro a w12 hF hb hN
    have hBs := hB.size
    replace hB := hB.trans (hb.mono hB.size)
    dsimp only [ext, Option.getD] at hF
    repeat (first | with_reducible refine wp_seq ?_ | with_reducible refine nThen ?_ | with_reducible refine nBlk ?_ | with_reducible refine wp_skip ?_ | with_reducible refine wp_block ?_ | with_reducible refine wp_exit ?_ | with_reducible refine xThen ?_ | with_reducible refine xHere ?_ | with_reducible refine xFar (by decide) ?_ | with_reducible refine wp_ret ?_ | with_reducible refine rThen ?_ | with_reducible refine rBlk ?_)
    refine' reg_all hF ?_ mixed (by kernel_rfl) ?_
    rotate_left
    · repeat (first
          | exact Line.nil
          | (refine' Line.cons rfl (.no rfl rfl rfl rfl rfl rfl) ?_; rotate_left)
          | ((first | refine' Line.cons rfl (.run rfl rfl ?_) ?_ | refine' Line.cons rfl (.yes rfl rfl rfl rfl ?_) ?_)
             any_goals (first | exact cAdd (r := ((q + 1 : Nat) : Int)) rfl rfl rfl (by omega) | exact cMove rfl rfl | exact cAssign rfl rfl | exact cPickT rfl rfl rfl | exact cPickF rfl rfl rfl | exact cNot rfl rfl | exact cLss rfl rfl rfl | exact cLeq rfl rfl rfl | exact cGtr rfl rfl rfl | exact cGeq rfl rfl rfl | exact cEql rfl rfl rfl | exact cNeq rfl rfl rfl | exact cExtract rfl rfl rfl)
             rotate_left))
    intro a w13 hF hb hN
    have hBs := hB.size
    replace hB := hB.trans (hb.mono hB.size)
    dsimp only [ext, Option.getD] at hF
    repeat (first | with_reducible refine wp_seq ?_ | with_reducible refine nThen ?_ | with_reducible refine nBlk ?_ | with_reducible refine wp_skip ?_ | with_reducible refine wp_block ?_ | with_reducible refine wp_exit ?_ | with_reducible refine xThen ?_ | with_reducible refine xHere ?_ | with_reducible refine xFar (by decide) ?_ | with_reducible refine wp_ret ?_ | with_reducible refine rThen ?_ | with_reducible refine rBlk ?_)
    have h7 : over (flat E) (j * 32) (u8s (D.getD (k + q) default).l).toList = flat (E.set j (D.getD (k + q) default)) := by
      rw [u8s_list]
      exact over_flat E _ (by omega)
    rw [h7] at hseg2
    have hdd2 : ddL D (k + (q + 1)) = ddL D (k + q) ++ [D.getD (k + q) default] := ddL_new (.inr hnew)
    refine ⟨m - 1, by omega, q + 1, j + 1, E.set j (D.getD (k + q) default), by omega, by omega, by simp [hE], ?_, by omega, ?_, fun i hi => ?_, hF.keep [0, 4, 3, 5], hseg2.below hB, hKw.trans (Keeps.of_below hB)⟩
    · rw [hdd2, List.length_append, ← hj]; rfl
    · rw [hdd2, ← hjt, take_snoc' _ (by rw [List.length_set]; omega), getD_set E _ (by omega), if_pos rfl, List.take_set_of_le (Nat.le_refl _)]
    · rw [getD_set E _ (by omega), if_neg (by omega)]
      exact hsame i (by omega)
  · have hold : D.getD (k + q) default = D.getD (k + q - 1) default := by simpa using hold
    repeat (first | with_reducible refine wp_seq ?_ | with_reducible refine nThen ?_ | with_reducible refine nBlk ?_ | with_reducible refine wp_skip ?_ | with_reducible refine wp_block ?_ | with_reducible refine wp_exit ?_ | with_reducible refine xThen ?_ | with_reducible refine xHere ?_ | with_reducible refine xFar (by decide) ?_ | with_reducible refine wp_ret ?_ | with_reducible refine rThen ?_ | with_reducible refine rBlk ?_)
    refine' reg_all hF ?_ mixed (by kernel_rfl) ?_
    rotate_left
    · repeat (first
          | exact Line.nil
          | (refine' Line.cons rfl (.no rfl rfl rfl rfl rfl rfl) ?_; rotate_left)
          | ((first | refine' Line.cons rfl (.run rfl rfl ?_) ?_ | refine' Line.cons rfl (.yes rfl rfl rfl rfl ?_) ?_)
             any_goals (first | exact cAdd (r := ((q + 1 : Nat) : Int)) rfl rfl rfl (by omega) | exact cMove rfl rfl | exact cAssign rfl rfl | exact cPickT rfl rfl rfl | exact cPickF rfl rfl rfl | exact cNot rfl rfl | exact cLss rfl rfl rfl | exact cLeq rfl rfl rfl | exact cGtr rfl rfl rfl | exact cGeq rfl rfl rfl | exact cEql rfl rfl rfl | exact cNeq rfl rfl rfl | exact cExtract rfl rfl rfl)
             rotate_left))
    intro a w10 hF hb hN
    have hBs := hB.size
    replace hB := hB.trans (hb.mono hB.size)
    dsimp only [ext, Option.getD] at hF
    repeat (first | with_reducible refine wp_seq ?_ | with_reducible refine nThen ?_ | with_reducible refine nBlk ?_ | with_reducible refine wp_skip ?_ | with_reducible refine wp_block ?_ | with_reducible refine wp_exit ?_ | with_reducible refine xThen ?_ | with_reducible refine xHere ?_ | with_reducible refine xFar (by decide) ?_ | with_reducible refine wp_ret ?_ | with_reducible refine rThen ?_ | with_reducible refine rBlk ?_)
    have hdd2 : ddL D (k + (q + 1)) = ddL D (k + q) := ddL_old (m := k + q) (by omega) hold
    exact ⟨m - 1, by omega, q + 1, j, E, by omega, by omega, hE, by rw [hdd2]; exact hj, by omega, by rw [hdd2]; exact hjt, fun i hi => hsame i (by omega), hF.keep [0, 4, 3, 5], hseg.below hB, hKw.trans (Keeps.of_below hB)⟩

set_option maxRecDepth 100000 in
theorem compact_none (w : World) : Calls Try.prog 67 #[.slice none 0 0] w fun e w' => e = .returned (.slice none 0 0) ∧ Below w.heap.size w w' := by
  refine enter_ty 61 [Ty.ex (.slice none 0 0)] Try.func67 rfl (by kernel_rfl) ⟨rfl, trivial⟩ fun a hF => ?_
  have hB := Below.refl w.heap.size w
  repeat (first | with_reducible refine wp_seq ?_ | with_reducible refine nThen ?_ | with_reducible refine nBlk ?_ | with_reducible refine wp_skip ?_ | with_reducible refine wp_block ?_ | with_reducible refine wp_exit ?_ | with_reducible refine xThen ?_ | with_reducible refine xHere ?_ | with_reducible refine xFar (by decide) ?_ | with_reducible refine wp_ret ?_ | with_reducible refine rThen ?_ | with_reducible refine rBlk ?_)
  refine' reg_all hF ?_ mixed (by kernel_rfl) ?_
  rotate_left
  · repeat (first
        | exact Line.nil
        | (refine' Line.cons rfl (.no rfl rfl rfl rfl rfl rfl) ?_; rotate_left)
        | ((first | refine' Line.cons rfl (.run rfl rfl ?_) ?_ | refine' Line.cons rfl (.yes rfl rfl rfl rfl ?_) ?_)
           any_goals (first | exact cMove rfl rfl | exact cAssign rfl rfl | exact cPickT rfl rfl rfl | exact cPickF rfl rfl rfl | exact cNot rfl rfl | exact cLss rfl rfl rfl | exact cLeq rfl rfl rfl | exact cGtr rfl rfl rfl | exact cGeq rfl rfl rfl | exact cEql rfl rfl rfl | exact cNeq rfl rfl rfl | exact cExtract rfl rfl rfl)
           rotate_left))
  intro a w1 hF hb hN
  have hBs := hB.size
  replace hB := hB.trans (hb.mono hB.size)
  dsimp only [ext, Option.getD] at hF
  repeat (first | with_reducible refine wp_seq ?_ | with_reducible refine nThen ?_ | with_reducible refine nBlk ?_ | with_reducible refine wp_skip ?_ | with_reducible refine wp_block ?_ | with_reducible refine wp_exit ?_ | with_reducible refine xThen ?_ | with_reducible refine xHere ?_ | with_reducible refine xFar (by decide) ?_ | with_reducible refine wp_ret ?_ | with_reducible refine rThen ?_ | with_reducible refine rBlk ?_)
  refine' reg_all hF ?_ mixed (by kernel_rfl) ?_
  rotate_left
  · repeat (first
        | exact Line.nil
        | (refine' Line.cons rfl (.no rfl rfl rfl rfl rfl rfl) ?_; rotate_left)
        | ((first | refine' Line.cons rfl (.run rfl rfl ?_) ?_ | refine' Line.cons rfl (.yes rfl rfl rfl rfl ?_) ?_)
           any_goals (first | exact cLenEx rfl rfl Try.underlying24 | exact cMove rfl rfl | exact cAssign rfl rfl | exact cPickT rfl rfl rfl | exact cPickF rfl rfl rfl | exact cNot rfl rfl | exact cLss rfl rfl rfl | exact cLeq rfl rfl rfl | exact cGtr rfl rfl rfl | exact cGeq rfl rfl rfl | exact cEql rfl rfl rfl | exact cNeq rfl rfl rfl | exact cExtract rfl rfl rfl)
           rotate_left))
  intro a w2 hF hb hN
  have hBs := hB.size
  replace hB := hB.trans (hb.mono hB.size)
  dsimp only [ext, Option.getD] at hF
  repeat (first | with_reducible refine wp_seq ?_ | with_reducible refine nThen ?_ | with_reducible refine nBlk ?_ | with_reducible refine wp_skip ?_ | with_reducible refine wp_block ?_ | with_reducible refine wp_exit ?_ | with_reducible refine xThen ?_ | with_reducible refine xHere ?_ | with_reducible refine xFar (by decide) ?_ | with_reducible refine wp_ret ?_ | with_reducible refine rThen ?_ | with_reducible refine rBlk ?_)
  refine cond_ty hF rfl (fun h0 => ?_) (fun h1 => ?_)
  · repeat (first | with_reducible refine wp_seq ?_ | with_reducible refine nThen ?_ | with_reducible refine nBlk ?_ | with_reducible refine wp_skip ?_ | with_reducible refine wp_block ?_ | with_reducible refine wp_exit ?_ | with_reducible refine xThen ?_ | with_reducible refine xHere ?_ | with_reducible refine xFar (by decide) ?_ | with_reducible refine wp_ret ?_ | with_reducible refine rThen ?_ | with_reducible refine rBlk ?_)
    refine' reg_all hF ?_ mixed (by kernel_rfl) ?_
    rotate_left
    · repeat (first
          | exact Line.nil
          | (refine' Line.cons rfl (.no rfl rfl rfl rfl rfl rfl) ?_; rotate_left)
          | ((first | refine' Line.cons rfl (.run rfl rfl ?_) ?_ | refine' Line.cons rfl (.yes rfl rfl rfl rfl ?_) ?_)
             any_goals (first | exact cMove rfl rfl | exact cAssign rfl rfl | exact cPickT rfl rfl rfl | exact cPickF rfl rfl rfl | exact cNot rfl rfl | exact cLss rfl rfl rfl | exact cLeq rfl rfl rfl | exact cGtr rfl rfl rfl | exact cGeq rfl rfl rfl | exact cEql rfl rfl rfl | exact cNeq rfl rfl rfl | exact cExtract rfl rfl rfl)
             rotate_left))
    intro a w3 hF hb hN
    have hBs := hB.size
    replace hB := hB.trans (hb.mono hB.size)
    dsimp only [ext, Option.getD] at hF
    repeat (first | with_reducible refine wp_seq ?_ | with_reducible refine nThen ?_ | with_reducible refine nBlk ?_ | with_reducible refine wp_skip ?_ | with_reducible refine wp_block ?_ | with_reducible refine wp_exit ?_ | with_reducible refine xThen ?_ | with_reducible refine xHere ?_ | with_reducible refine xFar (by decide) ?_ | with_reducible refine wp_ret ?_ | with_reducible refine rThen ?_ | with_reducible refine rBlk ?_)
    refine ret1 hF rfl rfl fun z hz => ?_
    have hz : z = .slice none 0 0 := hz
    subst hz
    exact ⟨rfl, hB⟩
  · exact absurd (of_decide_eq_false h1) (by decide)

/-- A set's row: sorted, each once. -/
def setL (D : List Sm) : List Sm := ddL (sortL D) D.length
theorem setL_len (D : List Sm) : (setL D).length ≤ D.length := ddL_le _ _
set_option maxRecDepth 100000 in
set_option maxHeartbeats 1000000 in
theorem of_ty (D : List Sm) (hD : D.length ≤ 1000000) : FnSeg1 Try.prog 19 (Ty.sums 34 D) 34 32 (setL D).length (flat (setL D)) := by
  refine ⟨fun args w => by kernel_rfl, fun w v hv => ?_⟩
  refine enter_ty 10 [Ty.sums 34 D] Try.func19 rfl (by kernel_rfl) ⟨hv, trivial⟩ fun a hF => ?_
  have hB := Below.refl w.heap.size w
  repeat (first | with_reducible refine wp_seq ?_ | with_reducible refine nThen ?_ | with_reducible refine nBlk ?_ | with_reducible refine wp_skip ?_ | with_reducible refine wp_block ?_ | with_reducible refine wp_exit ?_ | with_reducible refine xThen ?_ | with_reducible refine xHere ?_ | with_reducible refine xFar (by decide) ?_ | with_reducible refine wp_ret ?_ | with_reducible refine rThen ?_ | with_reducible refine rBlk ?_)
  refine' reg_all hF ?_ mixed (by kernel_rfl) ?_
  rotate_left
  · repeat (first
        | exact Line.nil
        | (refine' Line.cons rfl (.no rfl rfl rfl rfl rfl rfl) ?_; rotate_left)
        | ((first | refine' Line.cons rfl (.run rfl rfl ?_) ?_ | refine' Line.cons rfl (.yes rfl rfl rfl rfl ?_) ?_)
           any_goals (first | exact cMove rfl rfl | exact cAssign rfl rfl | exact cPickT rfl rfl rfl | exact cPickF rfl rfl rfl | exact cNot rfl rfl | exact cLss rfl rfl rfl | exact cLeq rfl rfl rfl | exact cGtr rfl rfl rfl | exact cGeq rfl rfl rfl | exact cEql rfl rfl rfl | exact cNeq rfl rfl rfl | exact cExtract rfl rfl rfl)
           rotate_left))
  intro a w1 hF hb hN
  have hBs := hB.size
  replace hB := hB.trans (hb.mono hB.size)
  dsimp only [ext, Option.getD] at hF
  repeat (first | with_reducible refine wp_seq ?_ | with_reducible refine nThen ?_ | with_reducible refine nBlk ?_ | with_reducible refine wp_skip ?_ | with_reducible refine wp_block ?_ | with_reducible refine wp_exit ?_ | with_reducible refine xThen ?_ | with_reducible refine xHere ?_ | with_reducible refine xFar (by decide) ?_ | with_reducible refine wp_ret ?_ | with_reducible refine rThen ?_ | with_reducible refine rBlk ?_)
  refine' reg_all hF ?_ mixed (by kernel_rfl) ?_
  rotate_left
  · repeat (first
        | exact Line.nil
        | (refine' Line.cons rfl (.no rfl rfl rfl rfl rfl rfl) ?_; rotate_left)
        | ((first | refine' Line.cons rfl (.run rfl rfl ?_) ?_ | refine' Line.cons rfl (.yes rfl rfl rfl rfl ?_) ?_)
           any_goals (first | exact cCallS1 rfl (.t rfl) (cloneS_ty D hD) | exact cMove rfl rfl | exact cAssign rfl rfl | exact cPickT rfl rfl rfl | exact cPickF rfl rfl rfl | exact cNot rfl rfl | exact cLss rfl rfl rfl | exact cLeq rfl rfl rfl | exact cGtr rfl rfl rfl | exact cGeq rfl rfl rfl | exact cEql rfl rfl rfl | exact cNeq rfl rfl rfl | exact cExtract rfl rfl rfl)
           rotate_left))
  intro a w2 hF hb hN
  have hBs := hB.size
  replace hB := hB.trans (hb.mono hB.size)
  dsimp only [ext, Option.getD] at hF
  repeat (first | with_reducible refine wp_seq ?_ | with_reducible refine nThen ?_ | with_reducible refine nBlk ?_ | with_reducible refine wp_skip ?_ | with_reducible refine wp_block ?_ | with_reducible refine wp_exit ?_ | with_reducible refine xThen ?_ | with_reducible refine xHere ?_ | with_reducible refine xFar (by decide) ?_ | with_reducible refine wp_ret ?_ | with_reducible refine rThen ?_ | with_reducible refine rBlk ?_)
  obtain ⟨u, ⟨S, hseg, hS⟩, hF⟩ := hF.open (s := 3) rfl
  replace hS : ∀ y ∈ S, w.heap.size ≤ y := fun y hy => Nat.le_trans hBs (hS y hy)
  have hen : Enters Try.prog 65 := fun args w => by kernel_rfl
  have hec : Enters Try.prog 67 := fun args w => by kernel_rfl
  rcases hseg.cases with ⟨rfl, h0, h1, rfl⟩ | ⟨g, off, cap, rfl, rfl, hl⟩
  · have hD0 : D = [] := List.eq_nil_of_length_eq_zero h0
    subst hD0
    refine' region_ty 1 mixed (by kernel_rfl) hF ?_ ?_
    rotate_left
    · simp only [List.take_succ_cons, List.take_zero]
      repeat (first
          | exact Line.nil
          | (refine' Line.cons rfl (.no rfl rfl rfl rfl rfl rfl) ?_; rotate_left)
          | ((first | refine' Line.cons rfl (.run rfl rfl ?_) ?_ | refine' Line.cons rfl (.yes rfl rfl rfl rfl ?_) ?_)
             any_goals (first | exact cMove rfl rfl | exact cAssign rfl rfl | exact cPickT rfl rfl rfl | exact cPickF rfl rfl rfl | exact cNot rfl rfl | exact cLss rfl rfl rfl | exact cLeq rfl rfl rfl | exact cGtr rfl rfl rfl | exact cGeq rfl rfl rfl | exact cEql rfl rfl rfl | exact cNeq rfl rfl rfl | exact cExtract rfl rfl rfl)
             rotate_left))
    intro a w3 hF hb hN
    have hBs := hB.size
    replace hB := hB.trans (hb.mono hB.size)
    simp only [List.take_succ_cons, List.take_zero, List.drop_succ_cons, List.drop_zero] at hF hN ⊢
    dsimp only [ext, Option.getD] at hF
    refine tlCall rfl rfl rfl (args := #[.slice none 0 0, .func (.func 66) #[] #[]]) ?_ hen (sort_none w3) ?_
    · simp only [List.map_toArray, List.map_cons, List.map_nil, hF.getEx (s := 6) rfl]
      rfl
    rintro z w4 rfl
    have hF := (hF.keep [3]).put (d := 7) (by decide) (Below.refl _ _) (V := Ty.ex z) rfl
    refine wpList_nil ?_
    repeat (first | with_reducible refine wp_seq ?_ | with_reducible refine nThen ?_ | with_reducible refine nBlk ?_ | with_reducible refine wp_skip ?_ | with_reducible refine wp_block ?_ | with_reducible refine wp_exit ?_ | with_reducible refine xThen ?_ | with_reducible refine xHere ?_ | with_reducible refine xFar (by decide) ?_ | with_reducible refine wp_ret ?_ | with_reducible refine rThen ?_ | with_reducible refine rBlk ?_)
    refine' reg_all hF ?_ mixed (by kernel_rfl) ?_
    rotate_left
    · repeat (first
          | exact Line.nil
          | (refine' Line.cons rfl (.no rfl rfl rfl rfl rfl rfl) ?_; rotate_left)
          | ((first | refine' Line.cons rfl (.run rfl rfl ?_) ?_ | refine' Line.cons rfl (.yes rfl rfl rfl rfl ?_) ?_)
             any_goals (first | exact cCallW1 rfl rfl hec (fun W x hb hx => by have hx : x = .slice none 0 0 := hx; subst hx; exact (compact_none W).mono fun _ _ ⟨a, b⟩ => ⟨_, a, rfl, b⟩) (ρ := Ty.ex (.slice none 0 0)) | exact cMove rfl rfl | exact cAssign rfl rfl | exact cPickT rfl rfl rfl | exact cPickF rfl rfl rfl | exact cNot rfl rfl | exact cLss rfl rfl rfl | exact cLeq rfl rfl rfl | exact cGtr rfl rfl rfl | exact cGeq rfl rfl rfl | exact cEql rfl rfl rfl | exact cNeq rfl rfl rfl | exact cExtract rfl rfl rfl)
             rotate_left))
    intro a w5 hF hb hN
    have hBs := hB.size
    replace hB := hB.trans (hb.mono hB.size)
    dsimp only [ext, Option.getD] at hF
    repeat (first | with_reducible refine wp_seq ?_ | with_reducible refine nThen ?_ | with_reducible refine nBlk ?_ | with_reducible refine wp_skip ?_ | with_reducible refine wp_block ?_ | with_reducible refine wp_exit ?_ | with_reducible refine xThen ?_ | with_reducible refine xHere ?_ | with_reducible refine xFar (by decide) ?_ | with_reducible refine wp_ret ?_ | with_reducible refine rThen ?_ | with_reducible refine rBlk ?_)
    refine ret1 hF rfl rfl fun z hz => ?_
    have hz : z = .slice none 0 0 := hz
    subst hz
    exact ⟨_, rfl, ⟨[], Seg.nil _ _ _, by simp⟩, hB⟩
  · have hg : w.heap.size ≤ g := hS g (by simp)
    refine' region_ty 1 mixed (by kernel_rfl) hF ?_ ?_
    rotate_left
    · simp only [List.take_succ_cons, List.take_zero]
      repeat (first
          | exact Line.nil
          | (refine' Line.cons rfl (.no rfl rfl rfl rfl rfl rfl) ?_; rotate_left)
          | ((first | refine' Line.cons rfl (.run rfl rfl ?_) ?_ | refine' Line.cons rfl (.yes rfl rfl rfl rfl ?_) ?_)
             any_goals (first | exact cMove rfl rfl | exact cAssign rfl rfl | exact cPickT rfl rfl rfl | exact cPickF rfl rfl rfl | exact cNot rfl rfl | exact cLss rfl rfl rfl | exact cLeq rfl rfl rfl | exact cGtr rfl rfl rfl | exact cGeq rfl rfl rfl | exact cEql rfl rfl rfl | exact cNeq rfl rfl rfl | exact cExtract rfl rfl rfl)
             rotate_left))
    intro a w3 hF hb hN
    have hBs := hB.size
    replace hB := hB.trans (hb.mono hB.size)
    simp only [List.take_succ_cons, List.take_zero, List.drop_succ_cons, List.drop_zero] at hF hN ⊢
    dsimp only [ext, Option.getD] at hF
    refine tlCall rfl rfl rfl (args := #[.slice (some ⟨g, off, none⟩) D.length cap, .func (.func 66) #[] #[]]) ?_ hen (sort_any D w3 g off cap (hl.below hb) hD) ?_
    · simp only [List.map_toArray, List.map_cons, List.map_nil, hF.getEx (s := 6) rfl]
      rfl
    rintro z w4 ⟨hl4, hk4⟩
    have hF := ((hF.keep [3]).free1 hk4 (hl.below hb) rfl).put (d := 7) (by decide) (Below.refl _ _) (V := Ty.ex z) rfl
    replace hB := below_own hB hk4 (by simpa using hg)
    refine wpList_nil ?_
    repeat (first | with_reducible refine wp_seq ?_ | with_reducible refine nThen ?_ | with_reducible refine nBlk ?_ | with_reducible refine wp_skip ?_ | with_reducible refine wp_block ?_ | with_reducible refine wp_exit ?_ | with_reducible refine xThen ?_ | with_reducible refine xHere ?_ | with_reducible refine xFar (by decide) ?_ | with_reducible refine wp_ret ?_ | with_reducible refine rThen ?_ | with_reducible refine rBlk ?_)
    have hsl := sortL_len D
    refine' region_ty 1 mixed (by kernel_rfl) hF ?_ ?_
    rotate_left
    · simp only [List.take_succ_cons, List.take_zero]
      repeat (first
          | exact Line.nil
          | (refine' Line.cons rfl (.no rfl rfl rfl rfl rfl rfl) ?_; rotate_left)
          | ((first | refine' Line.cons rfl (.run rfl rfl ?_) ?_ | refine' Line.cons rfl (.yes rfl rfl rfl rfl ?_) ?_)
             any_goals (first | exact cMove rfl rfl | exact cAssign rfl rfl | exact cPickT rfl rfl rfl | exact cPickF rfl rfl rfl | exact cNot rfl rfl | exact cLss rfl rfl rfl | exact cLeq rfl rfl rfl | exact cGtr rfl rfl rfl | exact cGeq rfl rfl rfl | exact cEql rfl rfl rfl | exact cNeq rfl rfl rfl | exact cExtract rfl rfl rfl)
             rotate_left))
    intro a w5 hF hb hN
    have hBs := hB.size
    replace hB := hB.trans (hb.mono hB.size)
    simp only [List.take_succ_cons, List.take_zero, List.drop_succ_cons, List.drop_zero] at hF hN ⊢
    dsimp only [ext, Option.getD] at hF
    refine tlCall rfl rfl rfl (args := #[.slice (some ⟨g, off, none⟩) D.length cap]) ?_ hec (R := fun u w' => u = .slice (some ⟨g, off, none⟩) (setL D).length cap ∧ SegL w' 34 32 g off (setL D).length cap (flat (setL D)) ∧ Keeps [g] w5 w') ?_ ?_
    · simp only [List.map_toArray, List.map_cons, List.map_nil, hF.getEx (s := 8) rfl]
    · have h := compact_any (sortL D) w5 g off cap (by rw [hsl]; exact hl4.below hb) (by omega)
      rw [hsl] at h
      refine h.mono fun e w' ⟨k, h1, h2, h3, h4⟩ => ?_
      subst h2
      exact ⟨_, h1, rfl, h3, h4⟩
    rintro z w6 ⟨rfl, hl6, hk6⟩
    have hF := ((hF.keep []).free1 hk6 (hl4.below hb) rfl).put (d := 9) (by decide) (Below.refl _ _) (V := Ty.ex (.slice (some ⟨g, off, none⟩) (setL D).length cap)) rfl
    replace hB := below_own hB hk6 (by simpa using hg)
    refine' tlOp hF rfl rfl rfl ?_ ?_
    rotate_left
    · first | exact cMove rfl rfl | exact cAssign rfl rfl | exact cPickT rfl rfl rfl | exact cPickF rfl rfl rfl | exact cNot rfl rfl | exact cLss rfl rfl rfl | exact cLeq rfl rfl rfl | exact cGtr rfl rfl rfl | exact cGeq rfl rfl rfl | exact cEql rfl rfl rfl | exact cNeq rfl rfl rfl | exact cExtract rfl rfl rfl
    intro a w7 hF hb
    have hBs := hB.size
    replace hB := hB.trans (hb.mono hB.size)
    try (refine wpList_nil ?_)
    repeat (first | with_reducible refine wp_seq ?_ | with_reducible refine nThen ?_ | with_reducible refine nBlk ?_ | with_reducible refine wp_skip ?_ | with_reducible refine wp_block ?_ | with_reducible refine wp_exit ?_ | with_reducible refine xThen ?_ | with_reducible refine xHere ?_ | with_reducible refine xFar (by decide) ?_ | with_reducible refine wp_ret ?_ | with_reducible refine rThen ?_ | with_reducible refine rBlk ?_)
    refine ret1 hF rfl rfl fun z hz => ?_
    have hz : z = .slice (some ⟨g, off, none⟩) (setL D).length cap := hz
    subst hz
    exact ⟨_, rfl, ⟨[g], (hl6.below hb).seg, by simpa using hg⟩, hB⟩
end Go.Proofs.Ytmlbkcpmgcjblaa

/- Layer 10, plainly: a set's row is strictly rising, holds the same. -/
namespace Go.Proofs.Ytmlbkcpmgcjblaa
open Go.RowKit

def srt (L : List Sm) : Prop := L.Pairwise fun x y => cmpL x.l y.l < 0
theorem Sm.ext' {x y : Sm} (h : x.l = y.l) : x = y := by
  cases x; cases y; simp only at h; subst h; rfl
theorem cmp_self (x : Sm) : cmpL x.l x.l = 0 := (cmpL_eq _ _).2 rfl
theorem cmp_zero {x y : Sm} : cmpL x.l y.l = 0 ↔ x = y := ⟨fun h => Sm.ext' ((cmpL_eq _ _).1 h), fun h => by rw [h]; exact cmp_self y⟩
theorem cmp_lt_trans {x y z : Sm} (h1 : cmpL x.l y.l ≤ 0) (h2 : cmpL y.l z.l ≤ 0) (h : cmpL x.l y.l < 0 ∨ cmpL y.l z.l < 0) : cmpL x.l z.l < 0 := (cmpL_trans _ _ _ h1 h2).2 h
theorem sortL_le (D : List Sm) : (sortL D).Pairwise fun x y => cmpL x.l y.l ≤ 0 := by
  have h := List.pairwise_mergeSort (le := fun x y : Sm => !ltS y x) (fun a b c h1 h2 => by
    simp only [ltS, Bool.not_eq_true', decide_eq_false_iff_not] at *
    have s1 := cmpL_swap a.l b.l
    have s2 := cmpL_swap b.l c.l
    have s3 := cmpL_swap a.l c.l
    have := (cmpL_trans a.l b.l c.l (by omega) (by omega)).1
    omega) (fun a b => by
    simp only [ltS, Bool.or_eq_true, Bool.not_eq_true', decide_eq_false_iff_not] at *
    have s1 := cmpL_swap a.l b.l
    omega) D
  refine List.Pairwise.imp ?_ h
  intro x y h
  simp only [ltS, Bool.not_eq_true', decide_eq_false_iff_not] at h
  have s1 := cmpL_swap x.l y.l
  omega
theorem sortL_mem (D : List Sm) (x : Sm) : x ∈ sortL D ↔ x ∈ D := (List.mergeSort_perm D _).mem_iff
theorem le_get {D : List Sm} (h : D.Pairwise fun x y => cmpL x.l y.l ≤ 0) {i j : Nat} (hij : i < j) (hj : j < D.length) : cmpL (D.getD i default).l (D.getD j default).l ≤ 0 := by
  have h1 := List.pairwise_iff_getElem.1 h i j (by omega) hj hij
  simpa [List.getD, hj, show i < D.length by omega] using h1
theorem lt_get {D : List Sm} (h : srt D) {i j : Nat} (hij : i < j) (hj : j < D.length) : cmpL (D.getD i default).l (D.getD j default).l < 0 := by
  have h1 := List.pairwise_iff_getElem.1 h i j (by omega) hj hij
  simpa [List.getD, hj, show i < D.length by omega] using h1
theorem ddL_facts {D : List Sm} (h : D.Pairwise fun x y => cmpL x.l y.l ≤ 0) : ∀ m, m ≤ D.length → srt (ddL D m) ∧ ∀ x, x ∈ ddL D m ↔ ∃ j, j < m ∧ D.getD j default = x
  | 0, _ => ⟨List.Pairwise.nil, fun x => by simp [ddL]⟩
  | m + 1, hm => by
    obtain ⟨h1, h2⟩ := ddL_facts h m (by omega)
    by_cases hn : m = 0 ∨ ¬ D.getD m default = D.getD (m - 1) default
    · rw [ddL_new hn]
      constructor
      · refine List.pairwise_append.2 ⟨h1, List.pairwise_singleton _ _, fun x hx y hy => ?_⟩
        obtain ⟨j, hj, rfl⟩ := (h2 x).1 hx
        simp only [List.mem_singleton] at hy
        subst hy
        have hn : ¬ D.getD m default = D.getD (m - 1) default := hn.resolve_left (by omega)
        have a1 := le_get h (i := m - 1) (j := m) (by omega) (by omega)
        have a2 : ¬ cmpL (D.getD (m - 1) default).l (D.getD m default).l = 0 := fun e => hn (cmp_zero.1 e).symm
        by_cases hjm : j = m - 1
        · subst hjm; omega
        · exact cmp_lt_trans (le_get h (i := j) (j := m - 1) (by omega) (by omega)) a1 (.inr (by omega))
      · intro x
        rw [List.mem_append, h2, List.mem_singleton]
        constructor
        · rintro (⟨j, hj, rfl⟩ | rfl)
          · exact ⟨j, by omega, rfl⟩
          · exact ⟨m, by omega, rfl⟩
        · rintro ⟨j, hj, rfl⟩
          by_cases hjm : j = m
          · subst hjm; exact .inr rfl
          · exact .inl ⟨j, by omega, rfl⟩
    · have hn' : ¬ m = 0 ∧ D.getD m default = D.getD (m - 1) default := by
        refine ⟨fun e => hn (.inl e), Classical.byContradiction fun e => hn (.inr e)⟩
      rw [ddL_old hn'.1 hn'.2]
      refine ⟨h1, fun x => ?_⟩
      rw [h2]
      constructor
      · rintro ⟨j, hj, rfl⟩
        exact ⟨j, by omega, rfl⟩
      · rintro ⟨j, hj, rfl⟩
        by_cases hjm : j = m
        · subst hjm; exact ⟨j - 1, by omega, hn'.2.symm⟩
        · exact ⟨j, by omega, rfl⟩
theorem setL_srt (D : List Sm) : srt (setL D) := by
  have h := (ddL_facts (sortL_le D) D.length (by rw [sortL_len]; exact Nat.le_refl _)).1
  exact h
theorem setL_mem (D : List Sm) (x : Sm) : x ∈ setL D ↔ x ∈ D := by
  have h := (ddL_facts (sortL_le D) D.length (by rw [sortL_len]; exact Nat.le_refl _)).2 x
  refine h.trans ?_
  rw [← sortL_mem D x, mem_get, sortL_len]
theorem srt_ext : ∀ {L M : List Sm}, srt L → srt M → (∀ x, x ∈ L ↔ x ∈ M) → L = M
  | [], [], _, _, _ => rfl
  | [], y :: M, _, _, h => absurd ((h y).2 (by simp)) (by simp)
  | x :: L, [], _, _, h => absurd ((h x).1 (by simp)) (by simp)
  | x :: L, y :: M, hL, hM, h => by
    obtain ⟨a1, a2⟩ := List.pairwise_cons.1 hL
    obtain ⟨b1, b2⟩ := List.pairwise_cons.1 hM
    have hxy : x = y := by
      rcases List.mem_cons.1 ((h x).1 (by simp)) with e | e
      · exact e
      rcases List.mem_cons.1 ((h y).2 (by simp)) with e' | e'
      · exact e'.symm
      have c1 := b1 x e
      have c2 := a1 y e'
      have := cmpL_swap x.l y.l
      omega
    subst hxy
    congr 1
    refine srt_ext a2 b2 fun z => ?_
    have hz := h z
    simp only [List.mem_cons] at hz
    constructor
    · intro hz1
      rcases hz.1 (.inr hz1) with e | e
      · subst e; have := a1 z hz1; rw [cmp_self] at this; omega
      · exact e
    · intro hz1
      rcases hz.2 (.inr hz1) with e | e
      · subst e; have := b1 z hz1; rw [cmp_self] at this; omega
      · exact e
theorem setL_self {L : List Sm} (h : srt L) : setL L = L := srt_ext (setL_srt L) h (setL_mem L)
end Go.Proofs.Ytmlbkcpmgcjblaa

/- Layer 14 by types: ints, awake. -/
namespace Go.Proofs.Ytmlbkcpmgcjblaa
open Go.RowKit

theorem ivn_drop {L : List Nat} {k : Nat} (h : k < L.length) : (L.map ivn).drop k = ivn (L.getD k 0) :: (L.map ivn).drop (k + 1) := by
  have h1 : k < (L.map ivn).length := by rw [List.length_map]; exact h
  rw [List.drop_eq_getElem_cons h1]
  congr 1
  rw [List.getElem_map]
  simp [List.getD, List.getElem?_eq_getElem h]
theorem sizeI : (Try.prog.info? 3).map (·.size) = some 1 := by kernel_rfl
end Go.Proofs.Ytmlbkcpmgcjblaa

/- Layer 15 by types: table.Of. -/
namespace Go.Proofs.Ytmlbkcpmgcjblaa
open Go.RowKit

theorem cAllocN {P : Program} {w0 : World} {Γ : Ctx} {o : Oper} {t : TypeId} {z : Array Value} (ho : o.op = .alloc t) (hz : ∀ w : World, (Instr.alloc t true (.tuple #[])).run P w = .ok (.pointer (some ⟨w.heap.size, 0, none⟩)) (w.alloc (.cells z t))) : OpOk P w0 Γ o (Ty.var w0 t z) :=
  .new fun a w hb _ => ⟨_, _, ⟨w.heap.size, rfl, hb.size, Blk.new w _ _⟩, ((Keeps.refl [] w).alloc _).below, by unfold execOp; simp [ho, hz]⟩
section
variable {P : Program} {w0 : World} {Γ : Ctx} {o : Oper} {x : Operand} {e : TypeId} {seed : Nat} {L : List Cl} {err : Value} {w1 : World}
theorem cExtT (ho : o.op = .extract x 0) (hx : OpT Γ x (Ty.tabE w1 e seed L err)) : OpOk P w0 Γ o (Ty.tabO w1 e seed L) :=
  .val fun a w _ hs => by
    obtain ⟨v, h1, u, h2, h3⟩ := hs x _ (by simp [ho, Op.operands]) hx
    refine ⟨u, h3, ?_⟩
    unfold execOp
    simp [ho, h1, h2, Instr.extract]
theorem cExtE (ho : o.op = .extract x 1) (hx : OpT Γ x (Ty.tabE w1 e seed L err)) : OpOk P w0 Γ o (Ty.ex err) :=
  .val fun a w _ hs => by
    obtain ⟨v, h1, u, h2, h3⟩ := hs x _ (by simp [ho, Op.operands]) hx
    refine ⟨err, rfl, ?_⟩
    unfold execOp
    simp [ho, h1, h2, Instr.extract]
end
theorem placesN_len3 (seed : Nat) (n : Int) (x : Sm) : (placesN seed n x).length ≤ 3 := by
  unfold placesN
  split
  · rw [plc_len]; exact Nat.le_refl _
  · simp
/-- The cells of a set's table. -/
def ofL (seed : Nat) (n : Int) (D : List Sm) : List Cl := if goodN n then tall seed (tzero n.toNat) (setL D) 1 else []
theorem tall_snoc (seed : Nat) (L : List Cl) (xs : List Sm) (x : Sm) (n : Int) : tall seed L (xs ++ [x]) n = tput seed (tall seed L xs n) x n := by unfold tall; rw [List.foldl_append]; rfl
theorem take_snocN (P : List Nat) {j : Nat} (h : j < P.length) : P.take (j + 1) = P.take j ++ [P.getD j 0] := by
  rw [List.take_succ_eq_append_getElem h]
  simp [List.getD, List.getElem?_eq_getElem h]
theorem fold_snoc (P : List Nat) {j : Nat} (h : j < P.length) (L : List Cl) (x : Sm) (n : Int) : (P.take (j + 1)).foldl (fun L i => tputAt L i x n) L = tputAt ((P.take j).foldl (fun L i => tputAt L i x n) L) (P.getD j 0) x n := by
  rw [take_snocN P h, List.foldl_append]
  rfl
theorem getD_mem {P : List Nat} {j : Nat} (h : j < P.length) : P.getD j 0 ∈ P := by
  simp only [List.getD, List.getElem?_eq_getElem h, Option.getD_some]
  exact List.getElem_mem h
/-- An element of a row of one's own, as an address. -/
theorem cell_at {w : World} {e : TypeId} {g off n cap : Nat} {L : List Cl} (h : SegL w e 65 g off n cap (flatC L)) {i : Nat} (hi : i < L.length) : (Ty.at_ e (L.getD i default).enc).p w (.pointer (some ⟨g, off + i * 65, none⟩)) := by
  obtain ⟨g', off', he, h⟩ := SlP.elem (k := i * 65) h.sl (by rw [flatC_len]; omega)
  simp only [Option.some.injEq, Addr.mk.injEq] at he
  obtain ⟨rfl, rfl, _⟩ := he
  have h := h (i * 65)
  rw [flatC_at _ hi] at h
  exact at_pre _ _ h
theorem segl_far {w : World} {e t : TypeId} {sz g off n cap g2 : Nat} {xs : List Value} {cs : Array Value} (h : SegL w e sz g off n cap xs) (hb : Blk w g2 t cs) (hne : (t == e) = false) : g2 ≠ g := fun hm => by
  subst hm
  obtain ⟨cs', fr, h1⟩ := h.block
  unfold Blk at hb
  rw [hb] at h1
  simp only [Option.some.injEq, Obj.cells.injEq] at h1
  rw [h1.2.1] at hne
  simp at hne
set_option maxRecDepth 100000 in
set_option maxHeartbeats 4000000 in
theorem tof_ty (seed : Nat) (n : Int) (D : List Sm) (hD : D.length ≤ 1000000) (hsd : seed < 18446744073709551616) : FnR3 Try.prog 31 (Ty.ex (.int .u64 (seed : Int))) (Ty.ex (.int .i64 n)) (Ty.sums 34 D) (fun w => Ty.tabE w 87 (newS seed n) (ofL seed n D) (newE n)) := by
  refine ⟨fun args w => by kernel_rfl, fun w v u q hv hu hq => ?_⟩
  have hNw := tnew_ty seed n
  refine enter_ty 54 [Ty.ex (.int .u64 (seed : Int)), Ty.ex (.int .i64 n), Ty.ex q] Try.func31 rfl (by kernel_rfl) ⟨hv, hu, rfl, trivial⟩ fun a hF => ?_
  have hB := Below.refl w.heap.size w
  let TD := Ty.sums 34 D
  repeat (first | with_reducible refine wp_seq ?_ | with_reducible refine nThen ?_ | with_reducible refine nBlk ?_ | with_reducible refine wp_skip ?_ | with_reducible refine wp_block ?_ | with_reducible refine wp_exit ?_ | with_reducible refine xThen ?_ | with_reducible refine xHere ?_ | with_reducible refine xFar (by decide) ?_ | with_reducible refine wp_ret ?_ | with_reducible refine rThen ?_ | with_reducible refine rBlk ?_)
  refine' reg_all hF ?_ mixed (by kernel_rfl) ?_
  rotate_left
  · repeat (first
        | exact Line.nil
        | (refine' Line.cons rfl (.no rfl rfl rfl rfl rfl rfl) ?_; rotate_left)
        | (refine' Line.cons rfl (.new rfl rfl (run_alloc_i infoT46) rfl) ?_; rotate_left)
        | ((first | refine' Line.cons rfl (.run rfl rfl ?_) ?_ | refine' Line.cons rfl (.yes rfl rfl rfl rfl ?_) ?_)
           any_goals (first | exact cMove rfl rfl | exact cAssign rfl rfl | exact cNot rfl rfl | exact cPickT rfl rfl rfl | exact cPickF rfl rfl rfl | exact cLss rfl rfl rfl | exact cLeq rfl rfl rfl | exact cGtr rfl rfl rfl | exact cGeq rfl rfl rfl | exact cEql rfl rfl rfl | exact cNeq rfl rfl rfl | exact cExtract rfl rfl rfl)
           rotate_left))
  intro a w1 hF hb hN
  have hBs := hB.size
  replace hB := hB.trans (hb.mono hB.size)
  dsimp only [ext, Option.getD] at hF
  repeat (first | with_reducible refine wp_seq ?_ | with_reducible refine nThen ?_ | with_reducible refine nBlk ?_ | with_reducible refine wp_skip ?_ | with_reducible refine wp_block ?_ | with_reducible refine wp_exit ?_ | with_reducible refine xThen ?_ | with_reducible refine xHere ?_ | with_reducible refine xFar (by decide) ?_ | with_reducible refine wp_ret ?_ | with_reducible refine rThen ?_ | with_reducible refine rBlk ?_)
  obtain ⟨z, ⟨g6, rfl, hg6, hb6⟩, hF⟩ := hF.open (s := 6) rfl
  have hg6 : w.heap.size ≤ g6 := hg6
  repeat (first | with_reducible refine wp_seq ?_ | with_reducible refine nThen ?_ | with_reducible refine nBlk ?_ | with_reducible refine wp_skip ?_ | with_reducible refine wp_block ?_ | with_reducible refine wp_exit ?_ | with_reducible refine xThen ?_ | with_reducible refine xHere ?_ | with_reducible refine xFar (by decide) ?_ | with_reducible refine wp_ret ?_ | with_reducible refine rThen ?_ | with_reducible refine rBlk ?_)
  refine wp_region_lit ?_
  refine' tlOp hF rfl rfl rfl ?_ ?_
  rotate_left
  · first | exact cMove rfl rfl | exact cAssign rfl rfl | exact cPickT rfl rfl rfl | exact cPickF rfl rfl rfl | exact cNot rfl rfl | exact cLss rfl rfl rfl | exact cLeq rfl rfl rfl | exact cGtr rfl rfl rfl | exact cGeq rfl rfl rfl | exact cEql rfl rfl rfl | exact cNeq rfl rfl rfl | exact cExtract rfl rfl rfl
  intro a w2 hF hb
  have hBs := hB.size
  replace hB := hB.trans (hb.mono hB.size)
  try (refine wpList_nil ?_)
  repeat (first | with_reducible refine wp_seq ?_ | with_reducible refine nThen ?_ | with_reducible refine nBlk ?_ | with_reducible refine wp_skip ?_ | with_reducible refine wp_block ?_ | with_reducible refine wp_exit ?_ | with_reducible refine xThen ?_ | with_reducible refine xHere ?_ | with_reducible refine xFar (by decide) ?_ | with_reducible refine wp_ret ?_ | with_reducible refine rThen ?_ | with_reducible refine rBlk ?_)
  replace hb6 := hb6.below hb
  refine' tlOp hF rfl rfl rfl ?_ ?_
  rotate_left
  · first | exact cMove rfl rfl | exact cAssign rfl rfl | exact cPickT rfl rfl rfl | exact cPickF rfl rfl rfl | exact cNot rfl rfl | exact cLss rfl rfl rfl | exact cLeq rfl rfl rfl | exact cGtr rfl rfl rfl | exact cGeq rfl rfl rfl | exact cEql rfl rfl rfl | exact cNeq rfl rfl rfl | exact cExtract rfl rfl rfl
  intro a w3 hF hb
  have hBs := hB.size
  replace hB := hB.trans (hb.mono hB.size)
  try (refine wpList_nil ?_)
  repeat (first | with_reducible refine wp_seq ?_ | with_reducible refine nThen ?_ | with_reducible refine nBlk ?_ | with_reducible refine wp_skip ?_ | with_reducible refine wp_block ?_ | with_reducible refine wp_exit ?_ | with_reducible refine xThen ?_ | with_reducible refine xHere ?_ | with_reducible refine xFar (by decide) ?_ | with_reducible refine wp_ret ?_ | with_reducible refine rThen ?_ | with_reducible refine rBlk ?_)
  replace hb6 := hb6.below hb
  have hw3 := hB.size
  refine' tlOp hF rfl rfl rfl ?_ ?_
  rotate_left
  · first | exact cCallR2 rfl (.t rfl) (.t rfl) hNw (tabE_olds _ _ _ _) | exact cMove rfl rfl | exact cAssign rfl rfl | exact cPickT rfl rfl rfl | exact cPickF rfl rfl rfl | exact cNot rfl rfl | exact cLss rfl rfl rfl | exact cLeq rfl rfl rfl | exact cGtr rfl rfl rfl | exact cGeq rfl rfl rfl | exact cEql rfl rfl rfl | exact cNeq rfl rfl rfl | exact cExtract rfl rfl rfl
  intro a w4 hF hb
  have hBs := hB.size
  replace hB := hB.trans (hb.mono hB.size)
  try (refine wpList_nil ?_)
  repeat (first | with_reducible refine wp_seq ?_ | with_reducible refine nThen ?_ | with_reducible refine nBlk ?_ | with_reducible refine wp_skip ?_ | with_reducible refine wp_block ?_ | with_reducible refine wp_exit ?_ | with_reducible refine xThen ?_ | with_reducible refine xHere ?_ | with_reducible refine xFar (by decide) ?_ | with_reducible refine wp_ret ?_ | with_reducible refine rThen ?_ | with_reducible refine rBlk ?_)
  replace hb6 := hb6.below hb
  refine' tlOp hF rfl rfl rfl ?_ ?_
  rotate_left
  · first | exact cMove rfl rfl | exact cAssign rfl rfl | exact cPickT rfl rfl rfl | exact cPickF rfl rfl rfl | exact cNot rfl rfl | exact cLss rfl rfl rfl | exact cLeq rfl rfl rfl | exact cGtr rfl rfl rfl | exact cGeq rfl rfl rfl | exact cEql rfl rfl rfl | exact cNeq rfl rfl rfl | exact cExtract rfl rfl rfl
  intro a w5 hF hb
  have hBs := hB.size
  replace hB := hB.trans (hb.mono hB.size)
  try (refine wpList_nil ?_)
  repeat (first | with_reducible refine wp_seq ?_ | with_reducible refine nThen ?_ | with_reducible refine nBlk ?_ | with_reducible refine wp_skip ?_ | with_reducible refine wp_block ?_ | with_reducible refine wp_exit ?_ | with_reducible refine xThen ?_ | with_reducible refine xHere ?_ | with_reducible refine xFar (by decide) ?_ | with_reducible refine wp_ret ?_ | with_reducible refine rThen ?_ | with_reducible refine rBlk ?_)
  replace hb6 := hb6.below hb
  refine' tlOp hF rfl rfl rfl ?_ ?_
  rotate_left
  · first | exact cExtT rfl rfl | exact cMove rfl rfl | exact cAssign rfl rfl | exact cPickT rfl rfl rfl | exact cPickF rfl rfl rfl | exact cNot rfl rfl | exact cLss rfl rfl rfl | exact cLeq rfl rfl rfl | exact cGtr rfl rfl rfl | exact cGeq rfl rfl rfl | exact cEql rfl rfl rfl | exact cNeq rfl rfl rfl | exact cExtract rfl rfl rfl
  intro a w6 hF hb
  have hBs := hB.size
  replace hB := hB.trans (hb.mono hB.size)
  try (refine wpList_nil ?_)
  repeat (first | with_reducible refine wp_seq ?_ | with_reducible refine nThen ?_ | with_reducible refine nBlk ?_ | with_reducible refine wp_skip ?_ | with_reducible refine wp_block ?_ | with_reducible refine wp_exit ?_ | with_reducible refine xThen ?_ | with_reducible refine xHere ?_ | with_reducible refine xFar (by decide) ?_ | with_reducible refine wp_ret ?_ | with_reducible refine rThen ?_ | with_reducible refine rBlk ?_)
  replace hb6 := hb6.below hb
  refine' tlOp hF rfl rfl rfl ?_ ?_
  rotate_left
  · first | exact cExtE rfl rfl | exact cMove rfl rfl | exact cAssign rfl rfl | exact cPickT rfl rfl rfl | exact cPickF rfl rfl rfl | exact cNot rfl rfl | exact cLss rfl rfl rfl | exact cLeq rfl rfl rfl | exact cGtr rfl rfl rfl | exact cGeq rfl rfl rfl | exact cEql rfl rfl rfl | exact cNeq rfl rfl rfl | exact cExtract rfl rfl rfl
  intro a w7 hF hb
  have hBs := hB.size
  replace hB := hB.trans (hb.mono hB.size)
  try (refine wpList_nil ?_)
  repeat (first | with_reducible refine wp_seq ?_ | with_reducible refine nThen ?_ | with_reducible refine nBlk ?_ | with_reducible refine wp_skip ?_ | with_reducible refine wp_block ?_ | with_reducible refine wp_exit ?_ | with_reducible refine xThen ?_ | with_reducible refine xHere ?_ | with_reducible refine xFar (by decide) ?_ | with_reducible refine wp_ret ?_ | with_reducible refine rThen ?_ | with_reducible refine rBlk ?_)
  replace hb6 := hb6.below hb
  have hlt6 := hb6.lt
  have hw7 := hB.size
  refine' tlOp hF rfl rfl rfl ?_ ?_
  rotate_left
  · first | exact cAllocN rfl (run_alloc_i infoT46) | exact cMove rfl rfl | exact cAssign rfl rfl | exact cPickT rfl rfl rfl | exact cPickF rfl rfl rfl | exact cNot rfl rfl | exact cLss rfl rfl rfl | exact cLeq rfl rfl rfl | exact cGtr rfl rfl rfl | exact cGeq rfl rfl rfl | exact cEql rfl rfl rfl | exact cNeq rfl rfl rfl | exact cExtract rfl rfl rfl
  intro a w8 hF hb
  have hBs := hB.size
  replace hB := hB.trans (hb.mono hB.size)
  try (refine wpList_nil ?_)
  repeat (first | with_reducible refine wp_seq ?_ | with_reducible refine nThen ?_ | with_reducible refine nBlk ?_ | with_reducible refine wp_skip ?_ | with_reducible refine wp_block ?_ | with_reducible refine wp_exit ?_ | with_reducible refine xThen ?_ | with_reducible refine xHere ?_ | with_reducible refine xFar (by decide) ?_ | with_reducible refine wp_ret ?_ | with_reducible refine rThen ?_ | with_reducible refine rBlk ?_)
  replace hb6 := hb6.below hb
  obtain ⟨z, ⟨g8, rfl, hg8, hb8⟩, hF⟩ := hF.open (s := 8) rfl
  have hg8 : w7.heap.size ≤ g8 := hg8
  obtain ⟨z, ⟨s18, rfl, S18, hs18, hS18⟩, hF⟩ := hF.open (s := 18) rfl
  refine tlStoreV (Δ := [(0, Ty.ex (.int .u64 (seed : Int))), (1, Ty.ex (.int .i64 n)), (2, Ty.ex q), (6, Ty.ex (.pointer (some ⟨g6, 0, none⟩))), (8, Ty.ex (.pointer (some ⟨g8, 0, none⟩))), (19, Ty.ex (newE n))]) hF rfl rfl rfl rfl (hF.getEx (s := 18) rfl) hb8 rfl sizeT46 (sl_one hs18.sl _) (hF.keep [0, 1, 2, 6, 8, 19]) rfl ?_
  intro w9 hF hb8' hkx
  replace hb6 := hb6.keeps hkx (by simp only [List.mem_singleton]; intro h; subst h; omega)
  replace hs18 := hs18.keeps hkx (seg_far hs18 hb8 (by decide))
  replace hB := below_own hB hkx (by intro y hy; simp only [List.mem_singleton] at hy; omega)
  replace hb8 : Blk w9 g8 41 #[.int .u64 (newS seed n : Int), s18] := hb8'
  have hne68 : g6 ≠ g8 := by omega
  clear hb8' hkx hlt6
  refine' tlOp hF rfl rfl rfl ?_ ?_
  rotate_left
  · first | exact cMove rfl rfl | exact cAssign rfl rfl | exact cPickT rfl rfl rfl | exact cPickF rfl rfl rfl | exact cNot rfl rfl | exact cLss rfl rfl rfl | exact cLeq rfl rfl rfl | exact cGtr rfl rfl rfl | exact cGeq rfl rfl rfl | exact cEql rfl rfl rfl | exact cNeq rfl rfl rfl | exact cExtract rfl rfl rfl
  intro a w10 hF hb
  have hBs := hB.size
  replace hB := hB.trans (hb.mono hB.size)
  try (refine wpList_nil ?_)
  repeat (first | with_reducible refine wp_seq ?_ | with_reducible refine nThen ?_ | with_reducible refine nBlk ?_ | with_reducible refine wp_skip ?_ | with_reducible refine wp_block ?_ | with_reducible refine wp_exit ?_ | with_reducible refine xThen ?_ | with_reducible refine xHere ?_ | with_reducible refine xFar (by decide) ?_ | with_reducible refine wp_ret ?_ | with_reducible refine rThen ?_ | with_reducible refine rBlk ?_)
  replace hb6 := hb6.below hb
  replace hb8 := hb8.below hb
  replace hs18 := hs18.below hb
  replace hF := hF.keep [0, 1, 2, 6, 8, 9]
  dsimp only [pick, look] at hF
  by_cases hgn : goodN n = true
  rotate_left
  · have hgn : goodN n = false := by simpa using hgn
    have e1 : newS seed n = 0 := by unfold newS; rw [hgn]; rfl
    have e2 : ofL seed n D = [] := by unfold ofL; rw [hgn]; rfl
    have e3 : newE n = .int .i64 1 := by unfold newE; rw [hgn]; rfl
    rw [e1, e2, e3]
    rw [e3] at hF
    refine' reg_all hF ?_ mixed (by kernel_rfl) ?_
    rotate_left
    · repeat (first
          | exact Line.nil
          | (refine' Line.cons rfl (.no rfl rfl rfl rfl rfl rfl) ?_; rotate_left)
          | ((first | refine' Line.cons rfl (.run rfl rfl ?_) ?_ | refine' Line.cons rfl (.yes rfl rfl rfl rfl ?_) ?_)
             any_goals (first | exact cMove rfl rfl | exact cAssign rfl rfl | exact cNot rfl rfl | exact OpOk.b (c := true) (cNeq rfl rfl rfl) rfl | exact cPickT rfl rfl rfl | exact cPickF rfl rfl rfl | exact cLss rfl rfl rfl | exact cLeq rfl rfl rfl | exact cGtr rfl rfl rfl | exact cGeq rfl rfl rfl | exact cEql rfl rfl rfl | exact cNeq rfl rfl rfl | exact cExtract rfl rfl rfl)
             rotate_left))
    intro a w11 hF hb hN
    have hBs := hB.size
    replace hB := hB.trans (hb.mono hB.size)
    dsimp only [ext, Option.getD] at hF
    repeat (first | with_reducible refine wp_seq ?_ | with_reducible refine nThen ?_ | with_reducible refine nBlk ?_ | with_reducible refine wp_skip ?_ | with_reducible refine wp_block ?_ | with_reducible refine wp_exit ?_ | with_reducible refine xThen ?_ | with_reducible refine xHere ?_ | with_reducible refine xFar (by decide) ?_ | with_reducible refine wp_ret ?_ | with_reducible refine rThen ?_ | with_reducible refine rBlk ?_)
    replace hb6 := hb6.below hb
    refine cond_t hF rfl ?_
    repeat (first | with_reducible refine wp_seq ?_ | with_reducible refine nThen ?_ | with_reducible refine nBlk ?_ | with_reducible refine wp_skip ?_ | with_reducible refine wp_block ?_ | with_reducible refine wp_exit ?_ | with_reducible refine xThen ?_ | with_reducible refine xHere ?_ | with_reducible refine xFar (by decide) ?_ | with_reducible refine wp_ret ?_ | with_reducible refine rThen ?_ | with_reducible refine rBlk ?_)
    refine wp_region_lit ?_
    refine' tlOp hF rfl rfl rfl ?_ ?_
    rotate_left
    · first | exact cBuildE rfl (fun w => buildT046 w) | exact cMove rfl rfl | exact cAssign rfl rfl | exact cPickT rfl rfl rfl | exact cPickF rfl rfl rfl | exact cNot rfl rfl | exact cLss rfl rfl rfl | exact cLeq rfl rfl rfl | exact cGtr rfl rfl rfl | exact cGeq rfl rfl rfl | exact cEql rfl rfl rfl | exact cNeq rfl rfl rfl | exact cExtract rfl rfl rfl
    intro a w12 hF hb
    have hBs := hB.size
    replace hB := hB.trans (hb.mono hB.size)
    try (refine wpList_nil ?_)
    repeat (first | with_reducible refine wp_seq ?_ | with_reducible refine nThen ?_ | with_reducible refine nBlk ?_ | with_reducible refine wp_skip ?_ | with_reducible refine wp_block ?_ | with_reducible refine wp_exit ?_ | with_reducible refine xThen ?_ | with_reducible refine xHere ?_ | with_reducible refine xFar (by decide) ?_ | with_reducible refine wp_ret ?_ | with_reducible refine rThen ?_ | with_reducible refine rBlk ?_)
    replace hb6 := hb6.below hb
    refine' tlOp hF rfl rfl rfl ?_ ?_
    rotate_left
    · first | exact cMove rfl rfl | exact cAssign rfl rfl | exact cPickT rfl rfl rfl | exact cPickF rfl rfl rfl | exact cNot rfl rfl | exact cLss rfl rfl rfl | exact cLeq rfl rfl rfl | exact cGtr rfl rfl rfl | exact cGeq rfl rfl rfl | exact cEql rfl rfl rfl | exact cNeq rfl rfl rfl | exact cExtract rfl rfl rfl
    intro a w12 hF hb
    have hBs := hB.size
    replace hB := hB.trans (hb.mono hB.size)
    try (refine wpList_nil ?_)
    repeat (first | with_reducible refine wp_seq ?_ | with_reducible refine nThen ?_ | with_reducible refine nBlk ?_ | with_reducible refine wp_skip ?_ | with_reducible refine wp_block ?_ | with_reducible refine wp_exit ?_ | with_reducible refine xThen ?_ | with_reducible refine xHere ?_ | with_reducible refine xFar (by decide) ?_ | with_reducible refine wp_ret ?_ | with_reducible refine rThen ?_ | with_reducible refine rBlk ?_)
    replace hb6 := hb6.below hb
    refine tlStoreV (Δ := [(6, Ty.ex (.pointer (some ⟨g6, 0, none⟩))), (23, Ty.ex (.int .i64 1))]) hF rfl rfl rfl rfl (hF.getEx (s := 22) rfl) hb6 rfl sizeT46 (tabCells 0 _ _ _) (hF.keep [6, 23]) rfl ?_
    intro w13 hF hb6 hkx
    replace hB := below_own hB hkx (by intro y hy; simp only [List.mem_singleton] at hy; omega)
    refine' tlOp hF rfl rfl rfl ?_ ?_
    rotate_left
    · first | exact cMove rfl rfl | exact cAssign rfl rfl | exact cPickT rfl rfl rfl | exact cPickF rfl rfl rfl | exact cNot rfl rfl | exact cLss rfl rfl rfl | exact cLeq rfl rfl rfl | exact cGtr rfl rfl rfl | exact cGeq rfl rfl rfl | exact cEql rfl rfl rfl | exact cNeq rfl rfl rfl | exact cExtract rfl rfl rfl
    intro a w14 hF hb
    have hBs := hB.size
    replace hB := hB.trans (hb.mono hB.size)
    try (refine wpList_nil ?_)
    repeat (first | with_reducible refine wp_seq ?_ | with_reducible refine nThen ?_ | with_reducible refine nBlk ?_ | with_reducible refine wp_skip ?_ | with_reducible refine wp_block ?_ | with_reducible refine wp_exit ?_ | with_reducible refine xThen ?_ | with_reducible refine xHere ?_ | with_reducible refine xFar (by decide) ?_ | with_reducible refine wp_ret ?_ | with_reducible refine rThen ?_ | with_reducible refine rBlk ?_)
    refine retCell2 hF rfl rfl rfl (hb6.below hb) Try.underlying41 rfl sizeT46 ?_
    exact ⟨_, rfl, ⟨_, rfl, _, rfl, [], Seg.nil _ _ _, by simp⟩, hB⟩
  obtain ⟨N, rfl, hN1, hN2⟩ := goodN_rng hgn
  have e1 : newS seed (N : Int) = seed := by unfold newS; rw [hgn]; rfl
  have e2 : ofL seed (N : Int) D = tall seed (tzero N) (setL D) 1 := by unfold ofL; rw [hgn, Int.toNat_natCast]; rfl
  have e3 : newE (N : Int) = .int .i64 0 := by unfold newE; rw [hgn]; rfl
  have e4 : newL (N : Int) = tzero N := by unfold newL; rw [hgn, Int.toNat_natCast]; rfl
  rw [e1, e2, e3]
  rw [e1] at hb8
  rw [e3] at hF
  rw [e4, tzero_len] at hs18
  obtain ⟨g, off, cap, es, rfl, hsl⟩ : ∃ g off cap, s18 = .slice (some ⟨g, off, none⟩) N cap ∧ S18 = [g] ∧ SegL w10 87 65 g off N cap (flatC (tzero N)) := by
    rcases hs18.cases with ⟨_, h0, _⟩ | h
    · omega
    · exact h
  have hgw : w.heap.size ≤ g := Nat.le_trans hw3 (hS18 g (by simp))
  rw [es] at hb8
  clear hs18 hS18 e1 e2 e3 e4 es
  refine' reg_all hF ?_ mixed (by kernel_rfl) ?_
  rotate_left
  · repeat (first
        | exact Line.nil
        | (refine' Line.cons rfl (.no rfl rfl rfl rfl rfl rfl) ?_; rotate_left)
        | ((first | refine' Line.cons rfl (.run rfl rfl ?_) ?_ | refine' Line.cons rfl (.yes rfl rfl rfl rfl ?_) ?_)
           any_goals (first | exact cMove rfl rfl | exact cAssign rfl rfl | exact cNot rfl rfl | exact OpOk.b (c := false) (cNeq rfl rfl rfl) rfl | exact cPickT rfl rfl rfl | exact cPickF rfl rfl rfl | exact cLss rfl rfl rfl | exact cLeq rfl rfl rfl | exact cGtr rfl rfl rfl | exact cGeq rfl rfl rfl | exact cEql rfl rfl rfl | exact cNeq rfl rfl rfl | exact cExtract rfl rfl rfl)
           rotate_left))
  intro a w11 hF hb hN
  have hBs := hB.size
  replace hB := hB.trans (hb.mono hB.size)
  dsimp only [ext, Option.getD] at hF
  repeat (first | with_reducible refine wp_seq ?_ | with_reducible refine nThen ?_ | with_reducible refine nBlk ?_ | with_reducible refine wp_skip ?_ | with_reducible refine wp_block ?_ | with_reducible refine wp_exit ?_ | with_reducible refine xThen ?_ | with_reducible refine xHere ?_ | with_reducible refine xFar (by decide) ?_ | with_reducible refine wp_ret ?_ | with_reducible refine rThen ?_ | with_reducible refine rBlk ?_)
  replace hb6 := hb6.below hb
  replace hb8 := hb8.below hb
  replace hsl := hsl.below hb
  refine cond_f hF rfl ?_
  repeat (first | with_reducible refine wp_seq ?_ | with_reducible refine nThen ?_ | with_reducible refine nBlk ?_ | with_reducible refine wp_skip ?_ | with_reducible refine wp_block ?_ | with_reducible refine wp_exit ?_ | with_reducible refine xThen ?_ | with_reducible refine xHere ?_ | with_reducible refine xFar (by decide) ?_ | with_reducible refine wp_ret ?_ | with_reducible refine rThen ?_ | with_reducible refine rBlk ?_)
  have hq11 := TD.below hq hB
  have hw11 := hB.size
  refine' reg_all hF ?_ mixed (by kernel_rfl) ?_
  rotate_left
  · repeat (first
        | exact Line.nil
        | (refine' Line.cons rfl (.no rfl rfl rfl rfl rfl rfl) ?_; rotate_left)
        | ((first | refine' Line.cons rfl (.run rfl rfl ?_) ?_ | refine' Line.cons rfl (.yes rfl rfl rfl rfl ?_) ?_)
           any_goals (first | exact cMove rfl rfl | exact cAssign rfl rfl | exact cNot rfl rfl | exact cCallS1 rfl (.l rfl hq11) (of_ty D hD) | exact cLenH rfl (.t rfl) (Ty.seg_isSl _ _ _ _ _) Try.underlying25 | exact cPickT rfl rfl rfl | exact cPickF rfl rfl rfl | exact cLss rfl rfl rfl | exact cLeq rfl rfl rfl | exact cGtr rfl rfl rfl | exact cGeq rfl rfl rfl | exact cEql rfl rfl rfl | exact cNeq rfl rfl rfl | exact cExtract rfl rfl rfl)
           rotate_left))
  intro a w12 hF hb hN
  have hBs := hB.size
  replace hB := hB.trans (hb.mono hB.size)
  dsimp only [ext, Option.getD] at hF
  repeat (first | with_reducible refine wp_seq ?_ | with_reducible refine nThen ?_ | with_reducible refine nBlk ?_ | with_reducible refine wp_skip ?_ | with_reducible refine wp_block ?_ | with_reducible refine wp_exit ?_ | with_reducible refine xThen ?_ | with_reducible refine xHere ?_ | with_reducible refine xFar (by decide) ?_ | with_reducible refine wp_ret ?_ | with_reducible refine rThen ?_ | with_reducible refine rBlk ?_)
  replace hb6 := hb6.below hb
  replace hb8 := hb8.below hb
  replace hsl := hsl.below hb
  have hXl := setL_len D
  generalize setL D = X at *
  obtain ⟨v25, ⟨S25, hs25, hS25⟩, hF⟩ := hF.open (s := 25) rfl
  refine loop_ty (fun m a wr => ∃ k : Nat, k + m = X.length ∧ Fr 54 [(0, Ty.ex (.int .u64 (seed : Int))), (1, Ty.ex (.int .i64 (N : Int))), (6, Ty.ex (.pointer (some ⟨g6, 0, none⟩))), (8, Ty.ex (.pointer (some ⟨g8, 0, none⟩))), (25, Ty.ex v25), (26, Ty.ex (.int .i64 (X.length : Int))), (27, Ty.ex (.int .i64 (k : Int)))] a wr ∧ Below w.heap.size w wr ∧ Blk wr g6 41 zeroT ∧ Blk wr g8 41 #[.int .u64 (seed : Int), .slice (some ⟨g, off, none⟩) N cap] ∧ SegL wr 87 65 g off N cap (flatC (tall seed (tzero N) (X.take k) 1)) ∧ Seg wr 34 32 v25 X.length (flat X) S25) X.length ?_ ?_
  · exact ⟨0, by omega, hF.keep [0, 1, 6, 8, 25, 26, 27], hB, hb6, hb8, hsl, hs25⟩
  clear hF hB hb6 hb8 hsl hs25
  rintro m a wr ⟨k, hk, hF, hB, hb6, hb8, hsl, hs25⟩
  repeat (first | with_reducible refine wp_seq ?_ | with_reducible refine nThen ?_ | with_reducible refine nBlk ?_ | with_reducible refine wp_skip ?_ | with_reducible refine wp_block ?_ | with_reducible refine wp_exit ?_ | with_reducible refine xThen ?_ | with_reducible refine xHere ?_ | with_reducible refine xFar (by decide) ?_ | with_reducible refine wp_ret ?_ | with_reducible refine rThen ?_ | with_reducible refine rBlk ?_)
  refine' reg_all hF ?_ mixed (by kernel_rfl) ?_
  rotate_left
  · repeat (first
        | exact Line.nil
        | (refine' Line.cons rfl (.no rfl rfl rfl rfl rfl rfl) ?_; rotate_left)
        | ((first | refine' Line.cons rfl (.run rfl rfl ?_) ?_ | refine' Line.cons rfl (.yes rfl rfl rfl rfl ?_) ?_)
           any_goals (first | exact cMove rfl rfl | exact cAssign rfl rfl | exact cNot rfl rfl | exact cPickT rfl rfl rfl | exact cPickF rfl rfl rfl | exact cLss rfl rfl rfl | exact cLeq rfl rfl rfl | exact cGtr rfl rfl rfl | exact cGeq rfl rfl rfl | exact cEql rfl rfl rfl | exact cNeq rfl rfl rfl | exact cExtract rfl rfl rfl)
           rotate_left))
  intro a w13 hF hb hN
  have hBs := hB.size
  replace hB := hB.trans (hb.mono hB.size)
  dsimp only [ext, Option.getD] at hF
  repeat (first | with_reducible refine wp_seq ?_ | with_reducible refine nThen ?_ | with_reducible refine nBlk ?_ | with_reducible refine wp_skip ?_ | with_reducible refine wp_block ?_ | with_reducible refine wp_exit ?_ | with_reducible refine xThen ?_ | with_reducible refine xHere ?_ | with_reducible refine xFar (by decide) ?_ | with_reducible refine wp_ret ?_ | with_reducible refine rThen ?_ | with_reducible refine rBlk ?_)
  replace hb6 := hb6.below hb
  replace hb8 := hb8.below hb
  replace hsl := hsl.below hb
  replace hs25 := hs25.below hb
  refine cond_ty hF rfl (fun hlt => ?_) (fun hge => ?_)
  rotate_left
  · have hge : ¬ k < X.length := by have := of_decide_eq_false hge; omega
    obtain rfl : k = X.length := by omega
    rw [List.take_length] at hsl
    have h8 : (Ty.at_ 41 [.int .u64 (seed : Int), .slice (some ⟨g, off, none⟩) N cap]).p w13 (.pointer (some ⟨g8, 0, none⟩)) := blk_at hb8
    have hn6 := segl_far hsl hb6 (by decide)
    repeat (first | with_reducible refine wp_seq ?_ | with_reducible refine nThen ?_ | with_reducible refine nBlk ?_ | with_reducible refine wp_skip ?_ | with_reducible refine wp_block ?_ | with_reducible refine wp_exit ?_ | with_reducible refine xThen ?_ | with_reducible refine xHere ?_ | with_reducible refine xFar (by decide) ?_ | with_reducible refine wp_ret ?_ | with_reducible refine rThen ?_ | with_reducible refine rBlk ?_)
    refine wp_region_lit ?_
    refine' tlOp hF rfl rfl rfl ?_ ?_
    rotate_left
    · first | exact cLoadT46 rfl (.l rfl h8) | exact cMove rfl rfl | exact cAssign rfl rfl | exact cPickT rfl rfl rfl | exact cPickF rfl rfl rfl | exact cNot rfl rfl | exact cLss rfl rfl rfl | exact cLeq rfl rfl rfl | exact cGtr rfl rfl rfl | exact cGeq rfl rfl rfl | exact cEql rfl rfl rfl | exact cNeq rfl rfl rfl | exact cExtract rfl rfl rfl
    intro a w14 hF hb
    have hBs := hB.size
    replace hB := hB.trans (hb.mono hB.size)
    try (refine wpList_nil ?_)
    repeat (first | with_reducible refine wp_seq ?_ | with_reducible refine nThen ?_ | with_reducible refine nBlk ?_ | with_reducible refine wp_skip ?_ | with_reducible refine wp_block ?_ | with_reducible refine wp_exit ?_ | with_reducible refine xThen ?_ | with_reducible refine xHere ?_ | with_reducible refine xFar (by decide) ?_ | with_reducible refine wp_ret ?_ | with_reducible refine rThen ?_ | with_reducible refine rBlk ?_)
    replace hb6 := hb6.below hb
    replace hsl := hsl.below hb
    refine tlStoreV (Δ := [(6, Ty.ex (.pointer (some ⟨g6, 0, none⟩)))]) hF rfl rfl rfl rfl (hF.getEx (s := 53) rfl) hb6 rfl sizeT46 (tabCells seed _ _ _) (hF.keep [6]) rfl ?_
    intro w15 hF hb6 hkx
    replace hB := below_own hB hkx (by intro y hy; simp only [List.mem_singleton] at hy; omega)
    replace hsl := hsl.keeps hkx (by simpa using Ne.symm hn6)
    refine' tlOp hF rfl rfl rfl ?_ ?_
    rotate_left
    · first | exact cMove rfl rfl | exact cAssign rfl rfl | exact cPickT rfl rfl rfl | exact cPickF rfl rfl rfl | exact cNot rfl rfl | exact cLss rfl rfl rfl | exact cLeq rfl rfl rfl | exact cGtr rfl rfl rfl | exact cGeq rfl rfl rfl | exact cEql rfl rfl rfl | exact cNeq rfl rfl rfl | exact cExtract rfl rfl rfl
    intro a w16 hF hb
    have hBs := hB.size
    replace hB := hB.trans (hb.mono hB.size)
    try (refine wpList_nil ?_)
    repeat (first | with_reducible refine wp_seq ?_ | with_reducible refine nThen ?_ | with_reducible refine nBlk ?_ | with_reducible refine wp_skip ?_ | with_reducible refine wp_block ?_ | with_reducible refine wp_exit ?_ | with_reducible refine xThen ?_ | with_reducible refine xHere ?_ | with_reducible refine xFar (by decide) ?_ | with_reducible refine wp_ret ?_ | with_reducible refine rThen ?_ | with_reducible refine rBlk ?_)
    refine retCell2 hF rfl rfl rfl (hb6.below hb) Try.underlying41 rfl sizeT46 ?_
    refine ⟨_, rfl, ⟨_, rfl, _, rfl, [g], ?_, fun y hy => ?_⟩, hB⟩
    · rw [tall_len, tzero_len]
      exact (hsl.below hb).seg
    · simp only [List.mem_singleton] at hy
      omega
  have hlt : k < X.length := by have := of_decide_eq_true hlt; omega
  have htk : X.take (k + 1) = X.take k ++ [X.getD k default] := take_snoc' X hlt
  have hnx : tall seed (tzero N) (X.take (k + 1)) 1 = tput seed (tall seed (tzero N) (X.take k) 1) (X.getD k default) 1 := by rw [htk, tall_snoc]
  have hMl : (tall seed (tzero N) (X.take k) 1).length = N := by rw [tall_len, tzero_len]
  obtain ⟨M, hM⟩ : ∃ M, M = tall seed (tzero N) (X.take k) 1 := ⟨_, rfl⟩
  rw [← hM] at hsl hnx hMl
  obtain ⟨x, hx⟩ : ∃ x, x = X.getD k default := ⟨_, rfl⟩
  rw [← hx] at hnx
  have hsl25 := hs25.sl
  have hlt25 := hs25.lt
  have hw13 := hB.size
  repeat (first | with_reducible refine wp_seq ?_ | with_reducible refine nThen ?_ | with_reducible refine nBlk ?_ | with_reducible refine wp_skip ?_ | with_reducible refine wp_block ?_ | with_reducible refine wp_exit ?_ | with_reducible refine xThen ?_ | with_reducible refine xHere ?_ | with_reducible refine xFar (by decide) ?_ | with_reducible refine wp_ret ?_ | with_reducible refine rThen ?_ | with_reducible refine rBlk ?_)
  refine' region_ty 3 mixed (by kernel_rfl) hF ?_ ?_
  rotate_left
  · simp only [List.take_succ_cons, List.take_zero]
    repeat (first
        | exact Line.nil
        | (refine' Line.cons rfl (.no rfl rfl rfl rfl rfl rfl) ?_; rotate_left)
        | (refine' Line.cons rfl (.new rfl rfl (run_alloc_i infoS) rfl) ?_; rotate_left)
        | ((first | refine' Line.cons rfl (.run rfl rfl ?_) ?_ | refine' Line.cons rfl (.yes rfl rfl rfl rfl ?_) ?_)
           any_goals (first | exact cMove rfl rfl | exact cAssign rfl rfl | exact cNot rfl rfl | exact cIndexSum (k := k) rfl (.l rfl hsl25) rfl Try.underlying25 sizeS hlt | exact cLoadSum rfl (.t rfl) Try.underlying34 sizeS | exact cPickT rfl rfl rfl | exact cPickF rfl rfl rfl | exact cLss rfl rfl rfl | exact cLeq rfl rfl rfl | exact cGtr rfl rfl rfl | exact cGeq rfl rfl rfl | exact cEql rfl rfl rfl | exact cNeq rfl rfl rfl | exact cExtract rfl rfl rfl)
           rotate_left))
  intro a w14 hF hb hN
  have hBs := hB.size
  replace hB := hB.trans (hb.mono hB.size)
  simp only [List.take_succ_cons, List.take_zero, List.drop_succ_cons, List.drop_zero] at hF hN ⊢
  dsimp only [ext, Option.getD] at hF
  replace hb6 := hb6.below hb
  replace hb8 := hb8.below hb
  replace hsl := hsl.below hb
  replace hs25 := hs25.below hb
  obtain ⟨z, ⟨g11, rfl, hg11, hb11⟩, hF⟩ := hF.open (s := 11) rfl
  have hg11 : w13.heap.size ≤ g11 := hg11
  have hn6 : g6 ≠ g11 := fun h => by subst h; exact absurd (hb6.ne hb11 (by decide)) (by simp)
  have hn8 : g8 ≠ g11 := fun h => by subst h; exact absurd (hb8.ne hb11 (by decide)) (by simp)
  have hng := segl_far hsl hb11 (by decide)
  refine tlStoreV (Δ := [(0, Ty.ex (.int .u64 (seed : Int))), (1, Ty.ex (.int .i64 (N : Int))), (6, Ty.ex (.pointer (some ⟨g6, 0, none⟩))), (8, Ty.ex (.pointer (some ⟨g8, 0, none⟩))), (11, Ty.ex (.pointer (some ⟨g11, 0, none⟩))), (25, Ty.ex v25), (26, Ty.ex (.int .i64 (X.length : Int))), (27, Ty.ex (.int .i64 (k : Int)))]) hF rfl rfl rfl rfl (hF.getEx (s := 30) rfl) hb11 (sumSz _) (by show _ = some (u8s _).size; rw [Sm.size]; exact sizeS) (u8s_one _) (hF.keep [0, 1, 6, 8, 11, 25, 26, 27]) rfl ?_
  intro w15 hF hb11' hkx
  refine wpList_nil ?_
  replace hB := below_own hB hkx (by intro y hy; simp only [List.mem_singleton] at hy; omega)
  replace hb6 := hb6.keeps hkx (by simpa using hn6)
  replace hb8 := hb8.keeps hkx (by simpa using hn8)
  replace hsl := hsl.keeps hkx (by simpa using Ne.symm hng)
  replace hs25 := hs25.keeps hkx (by intro y hy hm; simp only [List.mem_singleton] at hm; have := hlt25 y hy; omega)
  have h11 : (Ty.at_ 34 x.enc).p w15 (.pointer (some ⟨g11, 0, none⟩)) := by
    have h := blk_at hb11'
    rw [← hx] at h
    rwa [show (Value.agg (u8s x.l)).cells.toList = x.enc from u8s_list _] at h
  clear hb11 hb11' hkx
  have hPp := places_ty seed (N : Int) x hsd
  have hPd : ∀ j, j < (placesN seed (N : Int) x).length → (placesN seed (N : Int) x).getD j 0 < N := fun j hj => places_lt seed N x _ (getD_mem hj)
  have hput : tput seed M x 1 = (placesN seed (N : Int) x).foldl (fun L i => tputAt L i x 1) M := by unfold tput; rw [hMl]
  have hPl3 := placesN_len3 seed (N : Int) x
  generalize placesN seed (N : Int) x = PL at *
  repeat (first | with_reducible refine wp_seq ?_ | with_reducible refine nThen ?_ | with_reducible refine nBlk ?_ | with_reducible refine wp_skip ?_ | with_reducible refine wp_block ?_ | with_reducible refine wp_exit ?_ | with_reducible refine xThen ?_ | with_reducible refine xHere ?_ | with_reducible refine xFar (by decide) ?_ | with_reducible refine wp_ret ?_ | with_reducible refine rThen ?_ | with_reducible refine rBlk ?_)
  refine' reg_all hF ?_ mixed (by kernel_rfl) ?_
  rotate_left
  · repeat (first
        | exact Line.nil
        | (refine' Line.cons rfl (.no rfl rfl rfl rfl rfl rfl) ?_; rotate_left)
        | ((first | refine' Line.cons rfl (.run rfl rfl ?_) ?_ | refine' Line.cons rfl (.yes rfl rfl rfl rfl ?_) ?_)
           any_goals (first | exact cMove rfl rfl | exact cAssign rfl rfl | exact cNot rfl rfl | exact cLoadSum rfl (.l rfl h11) Try.underlying34 sizeS | exact cCall3 rfl rfl rfl rfl hPp | exact cLen rfl rfl (Ty.sl_isSl _ _ _) Try.underlying66 | exact cPickT rfl rfl rfl | exact cPickF rfl rfl rfl | exact cLss rfl rfl rfl | exact cLeq rfl rfl rfl | exact cGtr rfl rfl rfl | exact cGeq rfl rfl rfl | exact cEql rfl rfl rfl | exact cNeq rfl rfl rfl | exact cExtract rfl rfl rfl)
           rotate_left))
  intro a w16 hF hb hN
  have hBs := hB.size
  replace hB := hB.trans (hb.mono hB.size)
  dsimp only [ext, Option.getD] at hF
  repeat (first | with_reducible refine wp_seq ?_ | with_reducible refine nThen ?_ | with_reducible refine nBlk ?_ | with_reducible refine wp_skip ?_ | with_reducible refine wp_block ?_ | with_reducible refine wp_exit ?_ | with_reducible refine xThen ?_ | with_reducible refine xHere ?_ | with_reducible refine xFar (by decide) ?_ | with_reducible refine wp_ret ?_ | with_reducible refine rThen ?_ | with_reducible refine rBlk ?_)
  replace hb6 := hb6.below hb
  replace hb8 := hb8.below hb
  replace hsl := hsl.below hb
  replace hs25 := hs25.below hb
  replace h11 := (Ty.at_ 34 x.enc).below h11 hb
  obtain ⟨v34, hv34, hF⟩ := hF.open (s := 34) rfl
  refine wp_mono (Q := fun e a wr => e = .exit 2 ∧ Fr 54 [(0, Ty.ex (.int .u64 (seed : Int))), (1, Ty.ex (.int .i64 (N : Int))), (6, Ty.ex (.pointer (some ⟨g6, 0, none⟩))), (8, Ty.ex (.pointer (some ⟨g8, 0, none⟩))), (25, Ty.ex v25), (26, Ty.ex (.int .i64 (X.length : Int))), (27, Ty.ex (.int .i64 (k : Int)))] a wr ∧ Below w.heap.size w wr ∧ Blk wr g6 41 zeroT ∧ Blk wr g8 41 #[.int .u64 (seed : Int), .slice (some ⟨g, off, none⟩) N cap] ∧ SegL wr 87 65 g off N cap (flatC (tput seed M x 1)) ∧ Seg wr 34 32 v25 X.length (flat X) S25) ?_ ?_
  · refine loop_ty (fun m a wr => ∃ j : Nat, j + m = PL.length ∧ Fr 54 [(0, Ty.ex (.int .u64 (seed : Int))), (1, Ty.ex (.int .i64 (N : Int))), (6, Ty.ex (.pointer (some ⟨g6, 0, none⟩))), (8, Ty.ex (.pointer (some ⟨g8, 0, none⟩))), (11, Ty.ex (.pointer (some ⟨g11, 0, none⟩))), (25, Ty.ex v25), (26, Ty.ex (.int .i64 (X.length : Int))), (27, Ty.ex (.int .i64 (k : Int))), (34, Ty.ex v34), (35, Ty.ex (.int .i64 (PL.length : Int))), (36, Ty.ex (.int .i64 (j : Int)))] a wr ∧ Below w.heap.size w wr ∧ Blk wr g6 41 zeroT ∧ Blk wr g8 41 #[.int .u64 (seed : Int), .slice (some ⟨g, off, none⟩) N cap] ∧ SegL wr 87 65 g off N cap (flatC ((PL.take j).foldl (fun L i => tputAt L i x 1) M)) ∧ Seg wr 34 32 v25 X.length (flat X) S25 ∧ (Ty.at_ 34 x.enc).p wr (.pointer (some ⟨g11, 0, none⟩)) ∧ (Ty.sl 3 PL.length (PL.map ivn)).p wr v34) PL.length ?_ ?_
    · exact ⟨0, by omega, hF.keep [0, 1, 6, 8, 11, 25, 26, 27, 34, 35, 36], hB, hb6, hb8, hsl, hs25, h11, hv34⟩
    clear hF hB hb6 hb8 hsl hs25 h11 hv34 hsl25
    rintro m a wr ⟨j, hj, hF, hB, hb6, hb8, hsl, hs25, h11, hv34⟩
    repeat (first | with_reducible refine wp_seq ?_ | with_reducible refine nThen ?_ | with_reducible refine nBlk ?_ | with_reducible refine wp_skip ?_ | with_reducible refine wp_block ?_ | with_reducible refine wp_exit ?_ | with_reducible refine xThen ?_ | with_reducible refine xHere ?_ | with_reducible refine xFar (by decide) ?_ | with_reducible refine wp_ret ?_ | with_reducible refine rThen ?_ | with_reducible refine rBlk ?_)
    refine' reg_all hF ?_ mixed (by kernel_rfl) ?_
    rotate_left
    · repeat (first
          | exact Line.nil
          | (refine' Line.cons rfl (.no rfl rfl rfl rfl rfl rfl) ?_; rotate_left)
          | ((first | refine' Line.cons rfl (.run rfl rfl ?_) ?_ | refine' Line.cons rfl (.yes rfl rfl rfl rfl ?_) ?_)
             any_goals (first | exact cMove rfl rfl | exact cAssign rfl rfl | exact cNot rfl rfl | exact cPickT rfl rfl rfl | exact cPickF rfl rfl rfl | exact cLss rfl rfl rfl | exact cLeq rfl rfl rfl | exact cGtr rfl rfl rfl | exact cGeq rfl rfl rfl | exact cEql rfl rfl rfl | exact cNeq rfl rfl rfl | exact cExtract rfl rfl rfl)
             rotate_left))
    intro a w17 hF hb hN
    have hBs := hB.size
    replace hB := hB.trans (hb.mono hB.size)
    dsimp only [ext, Option.getD] at hF
    repeat (first | with_reducible refine wp_seq ?_ | with_reducible refine nThen ?_ | with_reducible refine nBlk ?_ | with_reducible refine wp_skip ?_ | with_reducible refine wp_block ?_ | with_reducible refine wp_exit ?_ | with_reducible refine xThen ?_ | with_reducible refine xHere ?_ | with_reducible refine xFar (by decide) ?_ | with_reducible refine wp_ret ?_ | with_reducible refine rThen ?_ | with_reducible refine rBlk ?_)
    replace hb6 := hb6.below hb
    replace hb8 := hb8.below hb
    replace hsl := hsl.below hb
    replace hs25 := hs25.below hb
    replace h11 := (Ty.at_ 34 x.enc).below h11 hb
    replace hv34 := (Ty.sl 3 PL.length (PL.map ivn)).below hv34 hb
    refine cond_ty hF rfl (fun hlt2 => ?_) (fun hge2 => ?_)
    rotate_left
    · have hge2 : ¬ j < PL.length := by have := of_decide_eq_false hge2; omega
      obtain rfl : j = PL.length := by omega
      rw [List.take_length, ← hput] at hsl
      repeat (first | with_reducible refine wp_seq ?_ | with_reducible refine nThen ?_ | with_reducible refine nBlk ?_ | with_reducible refine wp_skip ?_ | with_reducible refine wp_block ?_ | with_reducible refine wp_exit ?_ | with_reducible refine xThen ?_ | with_reducible refine xHere ?_ | with_reducible refine xFar (by decide) ?_ | with_reducible refine wp_ret ?_ | with_reducible refine rThen ?_ | with_reducible refine rBlk ?_)
      exact ⟨rfl, hF.keep [0, 1, 6, 8, 25, 26, 27], hB, hb6, hb8, hsl, hs25⟩
    have hlt2 : j < PL.length := by have := of_decide_eq_true hlt2; omega
    have hi := hPd j hlt2
    have hfs := fold_snoc PL hlt2 M x 1
    have hd1 := ivn_drop hlt2
    have hFl : ((PL.take j).foldl (fun L i => tputAt L i x 1) M).length = N := by rw [foldAt_len, hMl]
    generalize (PL.take j).foldl (fun L i => tputAt L i x 1) M = R at *
    generalize PL.getD j 0 = i at *
    have hcell := cell_at hsl (i := i) (by omega)
    have h8 : (Ty.at_ 41 [.int .u64 (seed : Int), .slice (some ⟨g, off, none⟩) N cap]).p w17 (.pointer (some ⟨g8, 0, none⟩)) := blk_at hb8
    repeat (first | with_reducible refine wp_seq ?_ | with_reducible refine nThen ?_ | with_reducible refine nBlk ?_ | with_reducible refine wp_skip ?_ | with_reducible refine wp_block ?_ | with_reducible refine wp_exit ?_ | with_reducible refine xThen ?_ | with_reducible refine xHere ?_ | with_reducible refine xFar (by decide) ?_ | with_reducible refine wp_ret ?_ | with_reducible refine rThen ?_ | with_reducible refine rBlk ?_)
    refine' reg_all hF ?_ mixed (by kernel_rfl) ?_
    rotate_left
    · repeat (first
          | exact Line.nil
          | (refine' Line.cons rfl (.no rfl rfl rfl rfl rfl rfl) ?_; rotate_left)
          | ((first | refine' Line.cons rfl (.run rfl rfl ?_) ?_ | refine' Line.cons rfl (.yes rfl rfl rfl rfl ?_) ?_)
             any_goals (first | exact cMove rfl rfl | exact cAssign rfl rfl | exact cNot rfl rfl | exact cIndexS (k := j) (sz := 1) rfl (.l rfl hv34) rfl Try.underlying66 sizeI hlt2 (by rw [List.length_map]; omega) | exact cLoad1 (u := ivn i) rfl (Has.c (.t rfl) (fun W v h => by rw [Nat.mul_one, hd1] at h; exact h)) (pts_at _ _) Try.underlying3 rfl | exact cPickT rfl rfl rfl | exact cPickF rfl rfl rfl | exact cLss rfl rfl rfl | exact cLeq rfl rfl rfl | exact cGtr rfl rfl rfl | exact cGeq rfl rfl rfl | exact cEql rfl rfl rfl | exact cNeq rfl rfl rfl | exact cExtract rfl rfl rfl)
             rotate_left))
    intro a w18 hF hb hN
    have hBs := hB.size
    replace hB := hB.trans (hb.mono hB.size)
    dsimp only [ext, Option.getD] at hF
    repeat (first | with_reducible refine wp_seq ?_ | with_reducible refine nThen ?_ | with_reducible refine nBlk ?_ | with_reducible refine wp_skip ?_ | with_reducible refine wp_block ?_ | with_reducible refine wp_exit ?_ | with_reducible refine xThen ?_ | with_reducible refine xHere ?_ | with_reducible refine xFar (by decide) ?_ | with_reducible refine wp_ret ?_ | with_reducible refine rThen ?_ | with_reducible refine rBlk ?_)
    replace hb6 := hb6.below hb
    replace hb8 := hb8.below hb
    replace hsl := hsl.below hb
    replace hs25 := hs25.below hb
    replace h11 := (Ty.at_ 34 x.enc).below h11 hb
    replace hv34 := (Ty.sl 3 PL.length (PL.map ivn)).below hv34 hb
    replace hcell := (Ty.at_ 87 _).below hcell hb
    replace h8 := (Ty.at_ 41 _).below h8 hb
    refine' region_ty 11 mixed (by kernel_rfl) hF ?_ ?_
    rotate_left
    · simp only [List.take_succ_cons, List.take_zero]
      repeat (first
          | exact Line.nil
          | (refine' Line.cons rfl (.no rfl rfl rfl rfl rfl rfl) ?_; rotate_left)
          | ((first | refine' Line.cons rfl (.run rfl rfl ?_) ?_ | refine' Line.cons rfl (.yes rfl rfl rfl rfl ?_) ?_)
             any_goals (first | exact cMove rfl rfl | exact cAssign rfl rfl | exact cNot rfl rfl | exact cFldL46 rfl (.l rfl h8) | exact cRowOf46 rfl (.t rfl) | exact cIndexEx (k := i) (sz := 65) rfl rfl rfl Try.underlying39 info34 hi | exact cLoadCl34 rfl (.l rfl hcell) | exact cLoadSum rfl (.l rfl h11) Try.underlying34 sizeS | exact cCall2 rfl rfl rfl (put_ty _ _) | exact cPickT rfl rfl rfl | exact cPickF rfl rfl rfl | exact cLss rfl rfl rfl | exact cLeq rfl rfl rfl | exact cGtr rfl rfl rfl | exact cGeq rfl rfl rfl | exact cEql rfl rfl rfl | exact cNeq rfl rfl rfl | exact cExtract rfl rfl rfl)
             rotate_left))
    intro a w19 hF hb hN
    have hBs := hB.size
    replace hB := hB.trans (hb.mono hB.size)
    simp only [List.take_succ_cons, List.take_zero, List.drop_succ_cons, List.drop_zero] at hF hN ⊢
    dsimp only [ext, Option.getD] at hF
    replace hb6 := hb6.below hb
    replace hb8 := hb8.below hb
    replace hsl := hsl.below hb
    replace hs25 := hs25.below hb
    replace h11 := (Ty.at_ 34 x.enc).below h11 hb
    replace hv34 := (Ty.sl 3 PL.length (PL.map ivn)).below hv34 hb
    have hn6 := segl_far hsl hb6 (by decide)
    have hn8 := segl_far hsl hb8 (by decide)
    obtain ⟨csg, frg, hbg⟩ := hsl.block
    have hbl : ∃ cs, Blk w19 g 87 cs := by
      obtain ⟨_, _, _, cs, h, _⟩ := hsl
      exact ⟨cs, h⟩
    obtain ⟨csb, hbl⟩ := hbl
    refine tlStoreAt (Δ := [(0, Ty.ex (.int .u64 (seed : Int))), (1, Ty.ex (.int .i64 (N : Int))), (6, Ty.ex (.pointer (some ⟨g6, 0, none⟩))), (8, Ty.ex (.pointer (some ⟨g8, 0, none⟩))), (11, Ty.ex (.pointer (some ⟨g11, 0, none⟩))), (25, Ty.ex v25), (26, Ty.ex (.int .i64 (X.length : Int))), (27, Ty.ex (.int .i64 (k : Int))), (34, Ty.ex v34), (35, Ty.ex (.int .i64 (PL.length : Int))), (36, Ty.ex (.int .i64 (j : Int)))]) (k := i * 65) hF rfl rfl rfl rfl rfl hsl (by rw [Cl.size]; omega) (by rw [Cl.size]; exact info34) (Cl.one _) (hF.keep [0, 1, 6, 8, 11, 25, 26, 27, 34, 35, 36]) rfl ?_
    intro w20 hF hsl hk20
    refine wpList_nil ?_
    replace hB := below_own hB hk20 (by intro y hy; simp only [List.mem_singleton] at hy; omega)
    replace hb6 := hb6.keeps hk20 (by simpa using hn6)
    replace hb8 := hb8.keeps hk20 (by simpa using hn8)
    replace hs25 := hs25.keeps hk20 (seg_far hs25 hbl (by decide))
    replace h11 := (Ty.at_ 34 x.enc).far h11 hk20 hbl rfl
    replace hv34 := (Ty.sl 3 PL.length (PL.map ivn)).far hv34 hk20 hbl rfl
    rw [show ((R.getD i default).put x 1).a.toList = ((R.getD i default).put x 1).enc from rfl, over_flatC _ _ (by omega)] at hsl
    rw [show R.set i ((R.getD i default).put x 1) = tputAt R i x 1 from rfl, ← hfs] at hsl
    repeat (first | with_reducible refine wp_seq ?_ | with_reducible refine nThen ?_ | with_reducible refine nBlk ?_ | with_reducible refine wp_skip ?_ | with_reducible refine wp_block ?_ | with_reducible refine wp_exit ?_ | with_reducible refine xThen ?_ | with_reducible refine xHere ?_ | with_reducible refine xFar (by decide) ?_ | with_reducible refine wp_ret ?_ | with_reducible refine rThen ?_ | with_reducible refine rBlk ?_)
    refine' reg_all hF ?_ mixed (by kernel_rfl) ?_
    rotate_left
    · repeat (first
          | exact Line.nil
          | (refine' Line.cons rfl (.no rfl rfl rfl rfl rfl rfl) ?_; rotate_left)
          | ((first | refine' Line.cons rfl (.run rfl rfl ?_) ?_ | refine' Line.cons rfl (.yes rfl rfl rfl rfl ?_) ?_)
             any_goals (first | exact cMove rfl rfl | exact cAssign rfl rfl | exact cNot rfl rfl | exact cAdd (r := ((j + 1 : Nat) : Int)) rfl rfl rfl (by omega) | exact cPickT rfl rfl rfl | exact cPickF rfl rfl rfl | exact cLss rfl rfl rfl | exact cLeq rfl rfl rfl | exact cGtr rfl rfl rfl | exact cGeq rfl rfl rfl | exact cEql rfl rfl rfl | exact cNeq rfl rfl rfl | exact cExtract rfl rfl rfl)
             rotate_left))
    intro a w21 hF hb hN
    have hBs := hB.size
    replace hB := hB.trans (hb.mono hB.size)
    dsimp only [ext, Option.getD] at hF
    repeat (first | with_reducible refine wp_seq ?_ | with_reducible refine nThen ?_ | with_reducible refine nBlk ?_ | with_reducible refine wp_skip ?_ | with_reducible refine wp_block ?_ | with_reducible refine wp_exit ?_ | with_reducible refine xThen ?_ | with_reducible refine xHere ?_ | with_reducible refine xFar (by decide) ?_ | with_reducible refine wp_ret ?_ | with_reducible refine rThen ?_ | with_reducible refine rBlk ?_)
    exact ⟨m - 1, by omega, j + 1, by omega, hF.keep [0, 1, 6, 8, 11, 25, 26, 27, 34, 35, 36], hB, hb6.below hb, hb8.below hb, hsl.below hb, hs25.below hb, (Ty.at_ 34 x.enc).below h11 hb, (Ty.sl 3 PL.length (PL.map ivn)).below hv34 hb⟩
  clear hF hB hb6 hb8 hsl hs25 h11 hv34 hsl25
  rintro e a wr ⟨rfl, hF, hB, hb6, hb8, hsl, hs25⟩
  repeat (first | with_reducible refine wp_seq ?_ | with_reducible refine nThen ?_ | with_reducible refine nBlk ?_ | with_reducible refine wp_skip ?_ | with_reducible refine wp_block ?_ | with_reducible refine wp_exit ?_ | with_reducible refine xThen ?_ | with_reducible refine xHere ?_ | with_reducible refine xFar (by decide) ?_ | with_reducible refine wp_ret ?_ | with_reducible refine rThen ?_ | with_reducible refine rBlk ?_)
  refine' reg_all hF ?_ mixed (by kernel_rfl) ?_
  rotate_left
  · repeat (first
        | exact Line.nil
        | (refine' Line.cons rfl (.no rfl rfl rfl rfl rfl rfl) ?_; rotate_left)
        | ((first | refine' Line.cons rfl (.run rfl rfl ?_) ?_ | refine' Line.cons rfl (.yes rfl rfl rfl rfl ?_) ?_)
           any_goals (first | exact cMove rfl rfl | exact cAssign rfl rfl | exact cNot rfl rfl | exact cAdd (r := ((k + 1 : Nat) : Int)) rfl rfl rfl (by omega) | exact cPickT rfl rfl rfl | exact cPickF rfl rfl rfl | exact cLss rfl rfl rfl | exact cLeq rfl rfl rfl | exact cGtr rfl rfl rfl | exact cGeq rfl rfl rfl | exact cEql rfl rfl rfl | exact cNeq rfl rfl rfl | exact cExtract rfl rfl rfl)
           rotate_left))
  intro a w17 hF hb hN
  have hBs := hB.size
  replace hB := hB.trans (hb.mono hB.size)
  dsimp only [ext, Option.getD] at hF
  repeat (first | with_reducible refine wp_seq ?_ | with_reducible refine nThen ?_ | with_reducible refine nBlk ?_ | with_reducible refine wp_skip ?_ | with_reducible refine wp_block ?_ | with_reducible refine wp_exit ?_ | with_reducible refine xThen ?_ | with_reducible refine xHere ?_ | with_reducible refine xFar (by decide) ?_ | with_reducible refine wp_ret ?_ | with_reducible refine rThen ?_ | with_reducible refine rBlk ?_)
  refine ⟨m - 1, by omega, k + 1, by omega, hF.keep [0, 1, 6, 8, 25, 26, 27], hB, hb6.below hb, hb8.below hb, ?_, hs25.below hb⟩
  rw [hnx]
  exact hsl.below hb
end Go.Proofs.Ytmlbkcpmgcjblaa

/- The laws' helpers of layers 15 to 18 by types: cellOf, tableOf, sameT, few. -/
namespace Go.Proofs.Ytmlbkcpmgcjblaa
open Go.RowKit

/-- A value of one cell is stored into a field of a variable of the call's own. -/
theorem tlStoreF {P : Program} {ops : Array Oper} {Q : Exit → Act → World → Prop} {rest : List Oper} {o : Oper} {a : Act} {w : World} {N : Nat} {Γ : Ctx} {ty t : TypeId} {p : Nat} {y : Operand} {g k : Nat} {cs : Array Value} {v : Value} {Δ : Ctx} (hF : Fr N Γ a w) (hg : o.guard = none) (hd : o.dst = none) (ho : o.op = .store ty (.tmp p) y) (hp : look Γ p = some (Ty.ex (.pointer (some ⟨g, k, none⟩)))) (hy : a.eval y = v)
    (hB : Blk w g t cs) (hk : k + v.cells.size ≤ cs.size) (hi : (P.info? ty).map (·.size) = some v.cells.size) (h1 : v.cells.all (·.oneCell') = true) (hΔ : Fr N Δ a w) (hfree : Δ.free t = true)
    (hq : ∀ w', Fr N Δ a w' → Blk w' g t (splice cs k v.cells.toList) → Keeps [g] w w' → wpList P ops Q rest a w') : wpList P ops Q (o :: rest) a w := by
  refine wpList_plain hg fun K hK => ?_
  unfold Oper.wp execOp
  simp only [ho, hF.getEx hp, hy, Instr.storeAt, Instr.sureAddr, Sem.run_bind, Sem.run_pure, Result.andThen_ok, storeVar_cells ty _ v, run_storeVar_mid w g k ty v.cells (hB.there hk) hi h1]
  have h2 := hB.setCells v.cells.toList k
  have h3 : Keeps [g] w (w.setCells g k v.cells.toList) := Keeps.setCells (.inl (by simp)) _ _ (Keeps.refl _ _)
  refine hK _ _ ?_
  rw [hd]
  refine hq _ (hΔ.free h3 (fun b hb _ => ?_) hfree) h2 h3
  simp only [List.mem_singleton] at hb
  subst hb
  exact ⟨cs, (0, 0), hB⟩
theorem sl_cells {v : Value} (h : ∃ A l c, v = .slice A l c) : v.cells = #[v] := by
  obtain ⟨A, l, c, rfl⟩ := h
  rfl
theorem sl_one1 {v : Value} (h : ∃ A l c, v = .slice A l c) : v.cells.all (·.oneCell') = true := by
  obtain ⟨A, l, c, rfl⟩ := h
  simp [Value.cells, Value.oneCell']
theorem splice2 (a b v : Value) (h : v.cells = #[v]) : splice #[a, b] 1 v.cells.toList = #[a, v] := by rw [h]; rfl
theorem seg_isA {w : World} {e : TypeId} {sz n : Nat} {v : Value} {xs : List Value} {S : List Nat} (h : Seg w e sz v n xs S) : ∃ A l c, v = .slice A l c := by
  obtain ⟨A, c, h1, _⟩ := h.form
  exact ⟨A, n, c, h1⟩
theorem cBuildC1 {P : Program} {w0 : World} {Γ : Ctx} {o : Oper} {t : TypeId} {x : Operand} {v z : Value} (ho : o.op = .build t #[(0, x)]) (hx : OpT Γ x (Ty.ex v)) (hr : ∀ w : World, (Instr.build t #[(0, v)]).run P w = .ok z w) : OpOk P w0 Γ o (Ty.ex z) :=
  cBuildP (vs := #[(0, v)]) ho (fun a w hs => by
    obtain ⟨v', h1, h2⟩ := hs x _ (by simp [ho, Op.operands]) hx
    have h2 : v' = v := h2
    simp [h1, h2]) hr
set_option maxRecDepth 100000 in
theorem cellOf15_ty (c : Cl) : Fn1 Try.prog 83 (Ty.ex (.agg c.a)) (Ty.ex (.agg c.a)) := by
  refine ⟨fun args w => by kernel_rfl, fun w v hv => ?_⟩
  refine enter_ty 10 [Ty.ex (.agg c.a)] Try.func83 rfl (by kernel_rfl) ⟨hv, trivial⟩ fun a hF => ?_
  have hB := Below.refl w.heap.size w
  repeat (first | with_reducible refine wp_seq ?_ | with_reducible refine nThen ?_ | with_reducible refine nBlk ?_ | with_reducible refine wp_skip ?_ | with_reducible refine wp_block ?_ | with_reducible refine wp_exit ?_ | with_reducible refine xThen ?_ | with_reducible refine xHere ?_ | with_reducible refine xFar (by decide) ?_ | with_reducible refine wp_ret ?_ | with_reducible refine rThen ?_ | with_reducible refine rBlk ?_)
  refine' reg_all hF ?_ mixed (by kernel_rfl) ?_
  rotate_left
  · repeat (first
        | exact Line.nil
        | (refine' Line.cons rfl (.no rfl rfl rfl rfl rfl rfl) ?_; rotate_left)
        | (refine' Line.cons rfl (.new rfl rfl (run_alloc_i infoC49) rfl) ?_; rotate_left)
        | ((first | refine' Line.cons rfl (.run rfl rfl ?_) ?_ | refine' Line.cons rfl (.yes rfl rfl rfl rfl ?_) ?_)
           any_goals (first | exact cMove rfl rfl | exact cAssign rfl rfl | exact cNot rfl rfl | exact cBoxCl rfl rfl | exact cPickT rfl rfl rfl | exact cPickF rfl rfl rfl | exact cLss rfl rfl rfl | exact cLeq rfl rfl rfl | exact cGtr rfl rfl rfl | exact cGeq rfl rfl rfl | exact cEql rfl rfl rfl | exact cNeq rfl rfl rfl | exact cExtract rfl rfl rfl)
           rotate_left))
  intro a w1 hF hb hN
  have hBs := hB.size
  replace hB := hB.trans (hb.mono hB.size)
  dsimp only [ext, Option.getD] at hF
  repeat (first | with_reducible refine wp_seq ?_ | with_reducible refine nThen ?_ | with_reducible refine nBlk ?_ | with_reducible refine wp_skip ?_ | with_reducible refine wp_block ?_ | with_reducible refine wp_exit ?_ | with_reducible refine xThen ?_ | with_reducible refine xHere ?_ | with_reducible refine xFar (by decide) ?_ | with_reducible refine wp_ret ?_ | with_reducible refine rThen ?_ | with_reducible refine rBlk ?_)
  obtain ⟨z, ⟨gx, rfl, hgx, hbx⟩, hF⟩ := hF.open (s := 2) rfl
  repeat (first | with_reducible refine wp_seq ?_ | with_reducible refine nThen ?_ | with_reducible refine nBlk ?_ | with_reducible refine wp_skip ?_ | with_reducible refine wp_block ?_ | with_reducible refine wp_exit ?_ | with_reducible refine xThen ?_ | with_reducible refine xHere ?_ | with_reducible refine xFar (by decide) ?_ | with_reducible refine wp_ret ?_ | with_reducible refine rThen ?_ | with_reducible refine rBlk ?_)
  refine' region_ty 7 mixed (by kernel_rfl) hF ?_ ?_
  rotate_left
  · simp only [List.take_succ_cons, List.take_zero]
    repeat (first
        | exact Line.nil
        | (refine' Line.cons rfl (.no rfl rfl rfl rfl rfl rfl) ?_; rotate_left)
        | ((first | refine' Line.cons rfl (.run rfl rfl ?_) ?_ | refine' Line.cons rfl (.yes rfl rfl rfl rfl ?_) ?_)
           any_goals (first | exact cMove rfl rfl | exact cAssign rfl rfl | exact cNot rfl rfl | exact cFldN34 rfl (.t rfl) | exact cFldK34 rfl (.t rfl) | exact cFldC34 rfl (.t rfl) | exact cLoadN rfl (.t rfl) | exact cLoadSum rfl (.t rfl) Try.underlying34 sizeS | exact cBuild3 rfl rfl rfl rfl (fun w => buildC49 _ _ _ w) | exact cPickT rfl rfl rfl | exact cPickF rfl rfl rfl | exact cLss rfl rfl rfl | exact cLeq rfl rfl rfl | exact cGtr rfl rfl rfl | exact cGeq rfl rfl rfl | exact cEql rfl rfl rfl | exact cNeq rfl rfl rfl | exact cExtract rfl rfl rfl)
           rotate_left))
  intro a w2 hF hb hN
  have hBs := hB.size
  replace hB := hB.trans (hb.mono hB.size)
  simp only [List.take_succ_cons, List.take_zero, List.drop_succ_cons, List.drop_zero] at hF hN ⊢
  dsimp only [ext, Option.getD] at hF
  replace hbx := hbx.below hb
  refine tlStoreV (Δ := [(2, Ty.ex (.pointer (some ⟨_, 0, none⟩)))]) hF rfl rfl rfl rfl (hF.getEx (s := 9) rfl) hbx (clSz _ _) ((by show _ = some (Cl.a _).size; rw [Cl.size]; exact info49)) (Cl.one _) (hF.keep [2]) rfl ?_
  intro w3 hF hbx hkx
  refine wpList_nil ?_
  replace hB := below_own hB hkx (by intro y hy; simp only [List.mem_singleton] at hy; omega)
  repeat (first | with_reducible refine wp_seq ?_ | with_reducible refine nThen ?_ | with_reducible refine nBlk ?_ | with_reducible refine wp_skip ?_ | with_reducible refine wp_block ?_ | with_reducible refine wp_exit ?_ | with_reducible refine xThen ?_ | with_reducible refine xHere ?_ | with_reducible refine xFar (by decide) ?_ | with_reducible refine wp_ret ?_ | with_reducible refine rThen ?_ | with_reducible refine rBlk ?_)
  refine retCell hF rfl rfl hbx (Try.underlying105) rfl ((by show _ = some (Cl.a _).size; rw [Cl.size]; exact info49)) ?_
  exact ⟨_, rfl, rfl, hB⟩
set_option maxRecDepth 100000 in
set_option maxHeartbeats 2000000 in
theorem tableOf15_ty (seed : Nat) (L : List Cl) (hL : L.length ≤ 1000000) : FnR1 Try.prog 37 (Ty.tab 87 seed L) (fun w => Ty.tabO w 105 seed L) := by
  refine ⟨fun args w => by kernel_rfl, fun w v ⟨s, hv, hs⟩ => ?_⟩
  subst hv
  let TL := Ty.cls 87 L
  refine enter_ty 27 [Ty.ex (.agg #[.int .u64 (seed : Int), s])] Try.func37 rfl (by kernel_rfl) ⟨rfl, trivial⟩ fun a hF => ?_
  have hB := Below.refl w.heap.size w
  repeat (first | with_reducible refine wp_seq ?_ | with_reducible refine nThen ?_ | with_reducible refine nBlk ?_ | with_reducible refine wp_skip ?_ | with_reducible refine wp_block ?_ | with_reducible refine wp_exit ?_ | with_reducible refine xThen ?_ | with_reducible refine xHere ?_ | with_reducible refine xFar (by decide) ?_ | with_reducible refine wp_ret ?_ | with_reducible refine rThen ?_ | with_reducible refine rBlk ?_)
  refine' reg_all hF ?_ mixed (by kernel_rfl) ?_
  rotate_left
  · repeat (first
        | exact Line.nil
        | (refine' Line.cons rfl (.no rfl rfl rfl rfl rfl rfl) ?_; rotate_left)
        | (refine' Line.cons rfl (.new rfl rfl (run_alloc_i infoT83) rfl) ?_; rotate_left)
        | ((first | refine' Line.cons rfl (.run rfl rfl ?_) ?_ | refine' Line.cons rfl (.yes rfl rfl rfl rfl ?_) ?_)
           any_goals (first | exact cMove rfl rfl | exact cAssign rfl rfl | exact cNot rfl rfl | exact cBoxTab rfl rfl | exact cPickT rfl rfl rfl | exact cPickF rfl rfl rfl | exact cLss rfl rfl rfl | exact cLeq rfl rfl rfl | exact cGtr rfl rfl rfl | exact cGeq rfl rfl rfl | exact cEql rfl rfl rfl | exact cNeq rfl rfl rfl | exact cExtract rfl rfl rfl)
           rotate_left))
  intro a w1 hF hb hN
  have hBs := hB.size
  replace hB := hB.trans (hb.mono hB.size)
  dsimp only [ext, Option.getD] at hF
  repeat (first | with_reducible refine wp_seq ?_ | with_reducible refine nThen ?_ | with_reducible refine nBlk ?_ | with_reducible refine wp_skip ?_ | with_reducible refine wp_block ?_ | with_reducible refine wp_exit ?_ | with_reducible refine xThen ?_ | with_reducible refine xHere ?_ | with_reducible refine xFar (by decide) ?_ | with_reducible refine wp_ret ?_ | with_reducible refine rThen ?_ | with_reducible refine rBlk ?_)
  obtain ⟨z, ⟨g2, rfl, hg2, hb2⟩, hF⟩ := hF.open (s := 2) rfl
  have hg2 : w.heap.size ≤ g2 := hg2
  obtain ⟨p1, hp1, hF⟩ := hF.open (s := 1) rfl
  have hs1 := TL.below hs hB
  have hB0 := hB
  have hw1 := hB.size
  have hlt2 := hb2.lt
  replace hB := Below.refl w1.heap.size w1
  repeat (first | with_reducible refine wp_seq ?_ | with_reducible refine nThen ?_ | with_reducible refine nBlk ?_ | with_reducible refine wp_skip ?_ | with_reducible refine wp_block ?_ | with_reducible refine wp_exit ?_ | with_reducible refine xThen ?_ | with_reducible refine xHere ?_ | with_reducible refine xFar (by decide) ?_ | with_reducible refine wp_ret ?_ | with_reducible refine rThen ?_ | with_reducible refine rBlk ?_)
  refine' region_ty 4 mixed (by kernel_rfl) hF ?_ ?_
  rotate_left
  · simp only [List.take_succ_cons, List.take_zero]
    repeat (first
        | exact Line.nil
        | (refine' Line.cons rfl (.no rfl rfl rfl rfl rfl rfl) ?_; rotate_left)
        | (refine' Line.cons rfl (.new rfl rfl (run_alloc_i infoT83) rfl) ?_; rotate_left)
        | ((first | refine' Line.cons rfl (.run rfl rfl ?_) ?_ | refine' Line.cons rfl (.yes rfl rfl rfl rfl ?_) ?_)
           any_goals (first | exact cMove rfl rfl | exact cAssign rfl rfl | exact cNot rfl rfl | exact cFldS46 rfl (.l rfl hp1) | exact cLoadU64 rfl (.t rfl) | exact cBuildC1 rfl rfl (fun w => buildTs83 _ w) | exact cPickT rfl rfl rfl | exact cPickF rfl rfl rfl | exact cLss rfl rfl rfl | exact cLeq rfl rfl rfl | exact cGtr rfl rfl rfl | exact cGeq rfl rfl rfl | exact cEql rfl rfl rfl | exact cNeq rfl rfl rfl | exact cExtract rfl rfl rfl)
           rotate_left))
  intro a w2 hF hb hN
  have hBs := hB.size
  replace hB := hB.trans (hb.mono hB.size)
  simp only [List.take_succ_cons, List.take_zero, List.drop_succ_cons, List.drop_zero] at hF hN ⊢
  dsimp only [ext, Option.getD] at hF
  obtain ⟨z, ⟨g3, rfl, hg3, hb3⟩, hF⟩ := hF.open (s := 3) rfl
  have hg3 : w1.heap.size ≤ g3 := hg3
  refine tlStoreV (Δ := [(1, Ty.ex p1), (2, Ty.ex (.pointer (some ⟨g2, 0, none⟩))), (3, Ty.ex (.pointer (some ⟨g3, 0, none⟩)))]) hF rfl rfl rfl rfl (hF.getEx (s := 7) rfl) hb3 rfl sizeT83 (tabCells seed _ _ _) (hF.keep [1, 2, 3]) rfl ?_
  intro w3 hF hb3 hkx
  refine wpList_nil ?_
  replace hB := below_own hB hkx (by intro y hy; simp only [List.mem_singleton] at hy; omega)
  replace hb3 : Blk w3 g3 52 #[.int .u64 (seed : Int), .slice none 0 0] := hb3
  clear hkx
  repeat (first | with_reducible refine wp_seq ?_ | with_reducible refine nThen ?_ | with_reducible refine nBlk ?_ | with_reducible refine wp_skip ?_ | with_reducible refine wp_block ?_ | with_reducible refine wp_exit ?_ | with_reducible refine xThen ?_ | with_reducible refine xHere ?_ | with_reducible refine xFar (by decide) ?_ | with_reducible refine wp_ret ?_ | with_reducible refine rThen ?_ | with_reducible refine rBlk ?_)
  refine' reg_all hF ?_ mixed (by kernel_rfl) ?_
  rotate_left
  · repeat (first
        | exact Line.nil
        | (refine' Line.cons rfl (.no rfl rfl rfl rfl rfl rfl) ?_; rotate_left)
        | ((first | refine' Line.cons rfl (.run rfl rfl ?_) ?_ | refine' Line.cons rfl (.yes rfl rfl rfl rfl ?_) ?_)
           any_goals (first | exact cMove rfl rfl | exact cAssign rfl rfl | exact cNot rfl rfl | exact cPickT rfl rfl rfl | exact cPickF rfl rfl rfl | exact cLss rfl rfl rfl | exact cLeq rfl rfl rfl | exact cGtr rfl rfl rfl | exact cGeq rfl rfl rfl | exact cEql rfl rfl rfl | exact cNeq rfl rfl rfl | exact cExtract rfl rfl rfl)
           rotate_left))
  intro a w4 hF hb hN
  have hBs := hB.size
  replace hB := hB.trans (hb.mono hB.size)
  dsimp only [ext, Option.getD] at hF
  repeat (first | with_reducible refine wp_seq ?_ | with_reducible refine nThen ?_ | with_reducible refine nBlk ?_ | with_reducible refine wp_skip ?_ | with_reducible refine wp_block ?_ | with_reducible refine wp_exit ?_ | with_reducible refine xThen ?_ | with_reducible refine xHere ?_ | with_reducible refine xFar (by decide) ?_ | with_reducible refine wp_ret ?_ | with_reducible refine rThen ?_ | with_reducible refine rBlk ?_)
  replace hb3 := hb3.below hb
  refine loop_ty (fun m a wr => ∃ (i : Nat) (u : Value) (S : List Nat), i + m = L.length ∧ Fr 27 [(1, Ty.ex p1), (2, Ty.ex (.pointer (some ⟨g2, 0, none⟩))), (3, Ty.ex (.pointer (some ⟨g3, 0, none⟩))), (4, Ty.ex (.int .i64 (i : Int)))] a wr ∧ Below w1.heap.size w1 wr ∧ Blk wr g3 52 #[.int .u64 (seed : Int), u] ∧ Seg wr 105 65 u i (flatC (L.take i)) S ∧ ∀ y ∈ S, w1.heap.size ≤ y) L.length ?_ ?_
  · exact ⟨0, _, [], by omega, hF.keep [1, 2, 3, 4], hB, hb3, Seg.nil _ _ _, by simp⟩
  clear hF hB hb3
  rintro m a wr ⟨i, u, S, hi, hF, hB, hb3, hseg, hS⟩
  have hp := (Ty.at_ 41 [.int .u64 (seed : Int), s]).below hp1 hB
  have hsr := TL.below hs1 hB
  repeat (first | with_reducible refine wp_seq ?_ | with_reducible refine nThen ?_ | with_reducible refine nBlk ?_ | with_reducible refine wp_skip ?_ | with_reducible refine wp_block ?_ | with_reducible refine wp_exit ?_ | with_reducible refine xThen ?_ | with_reducible refine xHere ?_ | with_reducible refine xFar (by decide) ?_ | with_reducible refine wp_ret ?_ | with_reducible refine rThen ?_ | with_reducible refine rBlk ?_)
  refine' reg_all hF ?_ mixed (by kernel_rfl) ?_
  rotate_left
  · repeat (first
        | exact Line.nil
        | (refine' Line.cons rfl (.no rfl rfl rfl rfl rfl rfl) ?_; rotate_left)
        | ((first | refine' Line.cons rfl (.run rfl rfl ?_) ?_ | refine' Line.cons rfl (.yes rfl rfl rfl rfl ?_) ?_)
           any_goals (first | exact cMove rfl rfl | exact cAssign rfl rfl | exact cNot rfl rfl | exact cFldL46 rfl (.l rfl hp) | exact cRowOf46 rfl (.t rfl) | exact cLenH rfl (.l rfl hsr) (Ty.sl_isSl _ _ _) Try.underlying39 | exact cPickT rfl rfl rfl | exact cPickF rfl rfl rfl | exact cLss rfl rfl rfl | exact cLeq rfl rfl rfl | exact cGtr rfl rfl rfl | exact cGeq rfl rfl rfl | exact cEql rfl rfl rfl | exact cNeq rfl rfl rfl | exact cExtract rfl rfl rfl)
           rotate_left))
  intro a w5 hF hb hN
  have hBs := hB.size
  replace hB := hB.trans (hb.mono hB.size)
  dsimp only [ext, Option.getD] at hF
  repeat (first | with_reducible refine wp_seq ?_ | with_reducible refine nThen ?_ | with_reducible refine nBlk ?_ | with_reducible refine wp_skip ?_ | with_reducible refine wp_block ?_ | with_reducible refine wp_exit ?_ | with_reducible refine xThen ?_ | with_reducible refine xHere ?_ | with_reducible refine xFar (by decide) ?_ | with_reducible refine wp_ret ?_ | with_reducible refine rThen ?_ | with_reducible refine rBlk ?_)
  replace hb3 := hb3.below hb
  replace hseg := hseg.below hb
  replace hp := (Ty.at_ 41 [.int .u64 (seed : Int), s]).below hp1 hB
  replace hsr := TL.below hs1 hB
  have h3 : (Ty.at_ 52 [.int .u64 (seed : Int), u]).p w5 (.pointer (some ⟨g3, 0, none⟩)) := blk_at hb3
  refine cond_ty hF rfl (fun hlt => ?_) (fun hge => ?_)
  · have hlt : i < L.length := by have := of_decide_eq_true hlt; omega
    have hsn := flatC_snoc L hlt
    have hC := cellOf15_ty (L.getD i default)
    repeat (first | with_reducible refine wp_seq ?_ | with_reducible refine nThen ?_ | with_reducible refine nBlk ?_ | with_reducible refine wp_skip ?_ | with_reducible refine wp_block ?_ | with_reducible refine wp_exit ?_ | with_reducible refine xThen ?_ | with_reducible refine xHere ?_ | with_reducible refine xFar (by decide) ?_ | with_reducible refine wp_ret ?_ | with_reducible refine rThen ?_ | with_reducible refine rBlk ?_)
    refine' region_ty 9 mixed (by kernel_rfl) hF ?_ ?_
    rotate_left
    · simp only [List.take_succ_cons, List.take_zero]
      repeat (first
          | exact Line.nil
          | (refine' Line.cons rfl (.no rfl rfl rfl rfl rfl rfl) ?_; rotate_left)
          | ((first | refine' Line.cons rfl (.run rfl rfl ?_) ?_ | refine' Line.cons rfl (.yes rfl rfl rfl rfl ?_) ?_)
             any_goals (first | exact cMove rfl rfl | exact cAssign rfl rfl | exact cNot rfl rfl | exact cFldL46 rfl (.l rfl hp) | exact cRowOf46 rfl (.t rfl) | exact cFldL83 rfl (.l rfl h3) | exact cRowOf83 rfl (.t rfl) | exact cIndexCl (k := i) rfl (.l rfl hsr) rfl Try.underlying39 info34 hlt | exact cLoadCl34 rfl (.t rfl) | exact cCall1 rfl rfl hC | exact cBuildCl1 rfl rfl Try.underlying50 infoC49 | exact cPickT rfl rfl rfl | exact cPickF rfl rfl rfl | exact cLss rfl rfl rfl | exact cLeq rfl rfl rfl | exact cGtr rfl rfl rfl | exact cGeq rfl rfl rfl | exact cEql rfl rfl rfl | exact cNeq rfl rfl rfl | exact cExtract rfl rfl rfl)
             rotate_left))
    intro a w6 hF hb hN
    have hBs := hB.size
    replace hB := hB.trans (hb.mono hB.size)
    simp only [List.take_succ_cons, List.take_zero, List.drop_succ_cons, List.drop_zero] at hF hN ⊢
    dsimp only [ext, Option.getD] at hF
    replace hb3 := hb3.below hb
    replace hseg := hseg.below hb
    have hf3 := seg_far hseg hb3 (by decide)
    refine tlAppend (Δ := [(1, Ty.ex p1), (2, Ty.ex (.pointer (some ⟨g2, 0, none⟩))), (3, Ty.ex (.pointer (some ⟨g3, 0, none⟩))), (4, Ty.ex (.int .i64 (i : Int)))]) (n := i) (m := 1) (news := flatC [L.getD i default]) hF rfl rfl rfl rfl Try.underlying50 infoC49 zero65_cells rfl hseg (.t rfl) sl_news (flatC_len _) flatC_one' (by simp [maxLen]; omega) (by omega) (hF.keep [1, 2, 3, 4]) rfl ?_
    intro a w7 u' S' hF hseg' hk7 hS'
    replace hb3 := hb3.keeps hk7 (fun hm => hf3 g3 hm (by simp))
    have hbS : ∀ y ∈ S', w1.heap.size ≤ y := own_next hB hS hS'
    replace hB := below_own hB hk7 hS
    rw [flatC_one, hsn] at hseg'
    refine' tlOp hF rfl rfl rfl ?_ ?_
    rotate_left
    · first | exact cFieldExE rfl rfl Try.underlying52 rfl size_row83 | exact cMove rfl rfl | exact cAssign rfl rfl | exact cPickT rfl rfl rfl | exact cPickF rfl rfl rfl | exact cNot rfl rfl | exact cLss rfl rfl rfl | exact cLeq rfl rfl rfl | exact cGtr rfl rfl rfl | exact cGeq rfl rfl rfl | exact cEql rfl rfl rfl | exact cNeq rfl rfl rfl | exact cExtract rfl rfl rfl
    intro a w8 hF hb
    have hBs := hB.size
    replace hB := hB.trans (hb.mono hB.size)
    try (refine wpList_nil ?_)
    repeat (first | with_reducible refine wp_seq ?_ | with_reducible refine nThen ?_ | with_reducible refine nBlk ?_ | with_reducible refine wp_skip ?_ | with_reducible refine wp_block ?_ | with_reducible refine wp_exit ?_ | with_reducible refine xThen ?_ | with_reducible refine xHere ?_ | with_reducible refine xFar (by decide) ?_ | with_reducible refine wp_ret ?_ | with_reducible refine rThen ?_ | with_reducible refine rBlk ?_)
    replace hb3 := hb3.below hb
    replace hseg' := hseg'.below hb
    have hcu := sl_cells (seg_isA hseg')
    refine tlStoreF (k := 0 + 1) (Δ := [(1, Ty.ex p1), (2, Ty.ex (.pointer (some ⟨g2, 0, none⟩))), (3, Ty.ex (.pointer (some ⟨g3, 0, none⟩))), (4, Ty.ex (.int .i64 (i : Int)))]) hF rfl rfl rfl rfl (hF.getEx (s := 24) rfl) hb3 (by rw [hcu]; exact Nat.le_refl 2) (by rw [hcu]; exact size_row83) (sl_one1 (seg_isA hseg')) (hF.keep [1, 2, 3, 4]) rfl ?_
    intro w9 hF hb3' hk9
    refine wpList_nil ?_
    replace hseg' := hseg'.keeps hk9 (seg_far hseg' hb3 (by decide))
    replace hB := below_own hB hk9 (by intro y hy; simp only [List.mem_singleton] at hy; omega)
    replace hb3 : Blk w9 g3 52 #[.int .u64 (seed : Int), u'] := by
      rw [Nat.zero_add, splice2 _ _ _ hcu] at hb3'
      exact hb3'
    repeat (first | with_reducible refine wp_seq ?_ | with_reducible refine nThen ?_ | with_reducible refine nBlk ?_ | with_reducible refine wp_skip ?_ | with_reducible refine wp_block ?_ | with_reducible refine wp_exit ?_ | with_reducible refine xThen ?_ | with_reducible refine xHere ?_ | with_reducible refine xFar (by decide) ?_ | with_reducible refine wp_ret ?_ | with_reducible refine rThen ?_ | with_reducible refine rBlk ?_)
    refine' reg_all hF ?_ mixed (by kernel_rfl) ?_
    rotate_left
    · repeat (first
          | exact Line.nil
          | (refine' Line.cons rfl (.no rfl rfl rfl rfl rfl rfl) ?_; rotate_left)
          | ((first | refine' Line.cons rfl (.run rfl rfl ?_) ?_ | refine' Line.cons rfl (.yes rfl rfl rfl rfl ?_) ?_)
             any_goals (first | exact cMove rfl rfl | exact cAssign rfl rfl | exact cNot rfl rfl | exact cAdd (r := ((i + 1 : Nat) : Int)) rfl rfl rfl (by omega) | exact cPickT rfl rfl rfl | exact cPickF rfl rfl rfl | exact cLss rfl rfl rfl | exact cLeq rfl rfl rfl | exact cGtr rfl rfl rfl | exact cGeq rfl rfl rfl | exact cEql rfl rfl rfl | exact cNeq rfl rfl rfl | exact cExtract rfl rfl rfl)
             rotate_left))
    intro a w10 hF hb hN
    have hBs := hB.size
    replace hB := hB.trans (hb.mono hB.size)
    dsimp only [ext, Option.getD] at hF
    repeat (first | with_reducible refine wp_seq ?_ | with_reducible refine nThen ?_ | with_reducible refine nBlk ?_ | with_reducible refine wp_skip ?_ | with_reducible refine wp_block ?_ | with_reducible refine wp_exit ?_ | with_reducible refine xThen ?_ | with_reducible refine xHere ?_ | with_reducible refine xFar (by decide) ?_ | with_reducible refine wp_ret ?_ | with_reducible refine rThen ?_ | with_reducible refine rBlk ?_)
    exact ⟨m - 1, by omega, i + 1, u', S', by omega, hF.keep [1, 2, 3, 4], hB, hb3.below hb, hseg'.below hb, hbS⟩
  have hge : ¬ i < L.length := by have := of_decide_eq_false hge; omega
  obtain rfl : i = L.length := by omega
  rw [List.take_length] at hseg
  replace hb2 : Blk w5 g2 52 #[.int .u64 0, .slice none 0 0] := hb2.below hB
  replace hB := hB0.trans (hB.mono hw1)
  repeat (first | with_reducible refine wp_seq ?_ | with_reducible refine nThen ?_ | with_reducible refine nBlk ?_ | with_reducible refine wp_skip ?_ | with_reducible refine wp_block ?_ | with_reducible refine wp_exit ?_ | with_reducible refine xThen ?_ | with_reducible refine xHere ?_ | with_reducible refine xFar (by decide) ?_ | with_reducible refine wp_ret ?_ | with_reducible refine rThen ?_ | with_reducible refine rBlk ?_)
  refine wp_region_lit ?_
  refine' tlOp hF rfl rfl rfl ?_ ?_
  rotate_left
  · first | exact cLoadT83 rfl (.l rfl h3) | exact cMove rfl rfl | exact cAssign rfl rfl | exact cPickT rfl rfl rfl | exact cPickF rfl rfl rfl | exact cNot rfl rfl | exact cLss rfl rfl rfl | exact cLeq rfl rfl rfl | exact cGtr rfl rfl rfl | exact cGeq rfl rfl rfl | exact cEql rfl rfl rfl | exact cNeq rfl rfl rfl | exact cExtract rfl rfl rfl
  intro a w6 hF hb
  have hBs := hB.size
  replace hB := hB.trans (hb.mono hB.size)
  try (refine wpList_nil ?_)
  repeat (first | with_reducible refine wp_seq ?_ | with_reducible refine nThen ?_ | with_reducible refine nBlk ?_ | with_reducible refine wp_skip ?_ | with_reducible refine wp_block ?_ | with_reducible refine wp_exit ?_ | with_reducible refine xThen ?_ | with_reducible refine xHere ?_ | with_reducible refine xFar (by decide) ?_ | with_reducible refine wp_ret ?_ | with_reducible refine rThen ?_ | with_reducible refine rBlk ?_)
  replace hb2 := hb2.below hb
  replace hseg := hseg.below hb
  refine tlStoreV (Δ := [(2, Ty.ex (.pointer (some ⟨g2, 0, none⟩)))]) hF rfl rfl rfl rfl (hF.getEx (s := 26) rfl) hb2 rfl sizeT83 (sl_one hseg.sl _) (hF.keep [2]) rfl ?_
  intro w7 hF hb2' hkx
  refine wpList_nil ?_
  replace hB := below_own hB hkx (by intro y hy; simp only [List.mem_singleton] at hy; omega)
  replace hseg := hseg.keeps hkx (seg_far hseg hb2 (by decide))
  repeat (first | with_reducible refine wp_seq ?_ | with_reducible refine nThen ?_ | with_reducible refine nBlk ?_ | with_reducible refine wp_skip ?_ | with_reducible refine wp_block ?_ | with_reducible refine wp_exit ?_ | with_reducible refine xThen ?_ | with_reducible refine xHere ?_ | with_reducible refine xFar (by decide) ?_ | with_reducible refine wp_ret ?_ | with_reducible refine rThen ?_ | with_reducible refine rBlk ?_)
  refine retCell hF rfl rfl hb2' Try.underlying52 rfl sizeT83 ?_
  exact ⟨_, rfl, ⟨u, rfl, S, hseg, fun y hy => Nat.le_trans hw1 (hS y hy)⟩, hB⟩
set_option maxRecDepth 100000 in
set_option maxHeartbeats 2000000 in
theorem sameT15_ty (sa sb : Nat) (A B : List Cl) (hA : A.length ≤ 1000000) : Fn2 Try.prog 36 (Ty.tab 105 sa A) (Ty.tab 105 sb B) (Ty.ex (.bool (decide (sa = sb) && decide (A = B)))) := by
  refine ⟨fun args w => by kernel_rfl, fun w v u ⟨s, hv, hs⟩ ⟨s2, hu, hs2⟩ => ?_⟩
  subst hv hu
  let TA := Ty.cls 105 A
  let TB := Ty.cls 105 B
  by_cases hse : sa = sb
  rotate_left
  · rw [decide_eq_false hse, Bool.false_and]
    have e1 : (!decide ((sa : Int) = (sb : Int))) = true := by rw [decide_eq_false (by omega)]; rfl
    refine enter_ty 38 [Ty.ex (.agg #[.int .u64 (sa : Int), s]), Ty.ex (.agg #[.int .u64 (sb : Int), s2])] Try.func36 rfl (by kernel_rfl) ⟨rfl, rfl, trivial⟩ fun a hF => ?_
    have hB := Below.refl w.heap.size w
    repeat (first | with_reducible refine wp_seq ?_ | with_reducible refine nThen ?_ | with_reducible refine nBlk ?_ | with_reducible refine wp_skip ?_ | with_reducible refine wp_block ?_ | with_reducible refine wp_exit ?_ | with_reducible refine xThen ?_ | with_reducible refine xHere ?_ | with_reducible refine xFar (by decide) ?_ | with_reducible refine wp_ret ?_ | with_reducible refine rThen ?_ | with_reducible refine rBlk ?_)
    refine' reg_all hF ?_ mixed (by kernel_rfl) ?_
    rotate_left
    · repeat (first
          | exact Line.nil
          | (refine' Line.cons rfl (.no rfl rfl rfl rfl rfl rfl) ?_; rotate_left)
          | ((first | refine' Line.cons rfl (.run rfl rfl ?_) ?_ | refine' Line.cons rfl (.yes rfl rfl rfl rfl ?_) ?_)
             any_goals (first | exact cMove rfl rfl | exact cAssign rfl rfl | exact cNot rfl rfl | exact cBoxTab rfl rfl | exact cPickT rfl rfl rfl | exact cPickF rfl rfl rfl | exact cLss rfl rfl rfl | exact cLeq rfl rfl rfl | exact cGtr rfl rfl rfl | exact cGeq rfl rfl rfl | exact cEql rfl rfl rfl | exact cNeq rfl rfl rfl | exact cExtract rfl rfl rfl)
             rotate_left))
    intro a w1 hF hb hN
    have hBs := hB.size
    replace hB := hB.trans (hb.mono hB.size)
    dsimp only [ext, Option.getD] at hF
    repeat (first | with_reducible refine wp_seq ?_ | with_reducible refine nThen ?_ | with_reducible refine nBlk ?_ | with_reducible refine wp_skip ?_ | with_reducible refine wp_block ?_ | with_reducible refine wp_exit ?_ | with_reducible refine xThen ?_ | with_reducible refine xHere ?_ | with_reducible refine xFar (by decide) ?_ | with_reducible refine wp_ret ?_ | with_reducible refine rThen ?_ | with_reducible refine rBlk ?_)
    refine' reg_all hF ?_ mixed (by kernel_rfl) ?_
    rotate_left
    · repeat (first
          | exact Line.nil
          | (refine' Line.cons rfl (.no rfl rfl rfl rfl rfl rfl) ?_; rotate_left)
          | ((first | refine' Line.cons rfl (.run rfl rfl ?_) ?_ | refine' Line.cons rfl (.yes rfl rfl rfl rfl ?_) ?_)
             any_goals (first | exact cMove rfl rfl | exact cAssign rfl rfl | exact cNot rfl rfl | exact cFldS83 rfl (.t rfl) | exact cLoadU64 rfl (.t rfl) | exact OpOk.b (cNeq rfl rfl rfl) e1 | exact cPickT rfl rfl rfl | exact cPickF rfl rfl rfl | exact cLss rfl rfl rfl | exact cLeq rfl rfl rfl | exact cGtr rfl rfl rfl | exact cGeq rfl rfl rfl | exact cEql rfl rfl rfl | exact cNeq rfl rfl rfl | exact cExtract rfl rfl rfl)
             rotate_left))
    intro a w2 hF hb hN
    have hBs := hB.size
    replace hB := hB.trans (hb.mono hB.size)
    dsimp only [ext, Option.getD] at hF
    repeat (first | with_reducible refine wp_seq ?_ | with_reducible refine nThen ?_ | with_reducible refine nBlk ?_ | with_reducible refine wp_skip ?_ | with_reducible refine wp_block ?_ | with_reducible refine wp_exit ?_ | with_reducible refine xThen ?_ | with_reducible refine xHere ?_ | with_reducible refine xFar (by decide) ?_ | with_reducible refine wp_ret ?_ | with_reducible refine rThen ?_ | with_reducible refine rBlk ?_)
    refine cond_t hF rfl ?_
    repeat (first | with_reducible refine wp_seq ?_ | with_reducible refine nThen ?_ | with_reducible refine nBlk ?_ | with_reducible refine wp_skip ?_ | with_reducible refine wp_block ?_ | with_reducible refine wp_exit ?_ | with_reducible refine xThen ?_ | with_reducible refine xHere ?_ | with_reducible refine xFar (by decide) ?_ | with_reducible refine wp_ret ?_ | with_reducible refine rThen ?_ | with_reducible refine rBlk ?_)
    refine' reg_all hF ?_ mixed (by kernel_rfl) ?_
    rotate_left
    · repeat (first
          | exact Line.nil
          | (refine' Line.cons rfl (.no rfl rfl rfl rfl rfl rfl) ?_; rotate_left)
          | ((first | refine' Line.cons rfl (.run rfl rfl ?_) ?_ | refine' Line.cons rfl (.yes rfl rfl rfl rfl ?_) ?_)
             any_goals (first | exact cMove rfl rfl | exact cAssign rfl rfl | exact cNot rfl rfl | exact cPickT rfl rfl rfl | exact cPickF rfl rfl rfl | exact cLss rfl rfl rfl | exact cLeq rfl rfl rfl | exact cGtr rfl rfl rfl | exact cGeq rfl rfl rfl | exact cEql rfl rfl rfl | exact cNeq rfl rfl rfl | exact cExtract rfl rfl rfl)
             rotate_left))
    intro a w3 hF hb hN
    have hBs := hB.size
    replace hB := hB.trans (hb.mono hB.size)
    dsimp only [ext, Option.getD] at hF
    repeat (first | with_reducible refine wp_seq ?_ | with_reducible refine nThen ?_ | with_reducible refine nBlk ?_ | with_reducible refine wp_skip ?_ | with_reducible refine wp_block ?_ | with_reducible refine wp_exit ?_ | with_reducible refine xThen ?_ | with_reducible refine xHere ?_ | with_reducible refine xFar (by decide) ?_ | with_reducible refine wp_ret ?_ | with_reducible refine rThen ?_ | with_reducible refine rBlk ?_)
    refine ret1 hF rfl rfl fun z hz => ?_
    exact ⟨z, rfl, hz, hB⟩
  subst hse
  have e1 : (!decide ((sa : Int) = (sa : Int))) = false := by rw [decide_eq_true rfl]; rfl
  rw [decide_eq_true rfl, Bool.true_and]
  by_cases hlen : A.length = B.length
  rotate_left
  · rw [decide_eq_false (fun h => hlen (by rw [h]))]
    have e2 : (!decide ((A.length : Int) = (B.length : Int))) = true := by rw [decide_eq_false (by omega)]; rfl
    refine enter_ty 38 [Ty.ex (.agg #[.int .u64 (sa : Int), s]), Ty.ex (.agg #[.int .u64 (sa : Int), s2])] Try.func36 rfl (by kernel_rfl) ⟨rfl, rfl, trivial⟩ fun a hF => ?_
    have hB := Below.refl w.heap.size w
    repeat (first | with_reducible refine wp_seq ?_ | with_reducible refine nThen ?_ | with_reducible refine nBlk ?_ | with_reducible refine wp_skip ?_ | with_reducible refine wp_block ?_ | with_reducible refine wp_exit ?_ | with_reducible refine xThen ?_ | with_reducible refine xHere ?_ | with_reducible refine xFar (by decide) ?_ | with_reducible refine wp_ret ?_ | with_reducible refine rThen ?_ | with_reducible refine rBlk ?_)
    refine' reg_all hF ?_ mixed (by kernel_rfl) ?_
    rotate_left
    · repeat (first
          | exact Line.nil
          | (refine' Line.cons rfl (.no rfl rfl rfl rfl rfl rfl) ?_; rotate_left)
          | ((first | refine' Line.cons rfl (.run rfl rfl ?_) ?_ | refine' Line.cons rfl (.yes rfl rfl rfl rfl ?_) ?_)
             any_goals (first | exact cMove rfl rfl | exact cAssign rfl rfl | exact cNot rfl rfl | exact cBoxTab rfl rfl | exact cPickT rfl rfl rfl | exact cPickF rfl rfl rfl | exact cLss rfl rfl rfl | exact cLeq rfl rfl rfl | exact cGtr rfl rfl rfl | exact cGeq rfl rfl rfl | exact cEql rfl rfl rfl | exact cNeq rfl rfl rfl | exact cExtract rfl rfl rfl)
             rotate_left))
    intro a w1 hF hb hN
    have hBs := hB.size
    replace hB := hB.trans (hb.mono hB.size)
    dsimp only [ext, Option.getD] at hF
    repeat (first | with_reducible refine wp_seq ?_ | with_reducible refine nThen ?_ | with_reducible refine nBlk ?_ | with_reducible refine wp_skip ?_ | with_reducible refine wp_block ?_ | with_reducible refine wp_exit ?_ | with_reducible refine xThen ?_ | with_reducible refine xHere ?_ | with_reducible refine xFar (by decide) ?_ | with_reducible refine wp_ret ?_ | with_reducible refine rThen ?_ | with_reducible refine rBlk ?_)
    have hs1 := TA.below hs hB
    have hs21 := TB.below hs2 hB
    refine' reg_all hF ?_ mixed (by kernel_rfl) ?_
    rotate_left
    · repeat (first
          | exact Line.nil
          | (refine' Line.cons rfl (.no rfl rfl rfl rfl rfl rfl) ?_; rotate_left)
          | ((first | refine' Line.cons rfl (.run rfl rfl ?_) ?_ | refine' Line.cons rfl (.yes rfl rfl rfl rfl ?_) ?_)
             any_goals (first | exact cMove rfl rfl | exact cAssign rfl rfl | exact cNot rfl rfl | exact cFldS83 rfl (.t rfl) | exact cLoadU64 rfl (.t rfl) | exact OpOk.b (cNeq rfl rfl rfl) e1 | exact cFldL83 rfl (.t rfl) | exact cRowOf83 rfl (.t rfl) | exact cLenH rfl (.l rfl hs1) (Ty.sl_isSl _ _ _) Try.underlying50 | exact cLenH rfl (.l rfl hs21) (Ty.sl_isSl _ _ _) Try.underlying50 | exact OpOk.b (cNeq rfl rfl rfl) e2 | exact cPickT rfl rfl rfl | exact cPickF rfl rfl rfl | exact cLss rfl rfl rfl | exact cLeq rfl rfl rfl | exact cGtr rfl rfl rfl | exact cGeq rfl rfl rfl | exact cEql rfl rfl rfl | exact cNeq rfl rfl rfl | exact cExtract rfl rfl rfl)
             rotate_left))
    intro a w2 hF hb hN
    have hBs := hB.size
    replace hB := hB.trans (hb.mono hB.size)
    dsimp only [ext, Option.getD] at hF
    repeat (first | with_reducible refine wp_seq ?_ | with_reducible refine nThen ?_ | with_reducible refine nBlk ?_ | with_reducible refine wp_skip ?_ | with_reducible refine wp_block ?_ | with_reducible refine wp_exit ?_ | with_reducible refine xThen ?_ | with_reducible refine xHere ?_ | with_reducible refine xFar (by decide) ?_ | with_reducible refine wp_ret ?_ | with_reducible refine rThen ?_ | with_reducible refine rBlk ?_)
    refine cond_t hF rfl ?_
    repeat (first | with_reducible refine wp_seq ?_ | with_reducible refine nThen ?_ | with_reducible refine nBlk ?_ | with_reducible refine wp_skip ?_ | with_reducible refine wp_block ?_ | with_reducible refine wp_exit ?_ | with_reducible refine xThen ?_ | with_reducible refine xHere ?_ | with_reducible refine xFar (by decide) ?_ | with_reducible refine wp_ret ?_ | with_reducible refine rThen ?_ | with_reducible refine rBlk ?_)
    refine' reg_all hF ?_ mixed (by kernel_rfl) ?_
    rotate_left
    · repeat (first
          | exact Line.nil
          | (refine' Line.cons rfl (.no rfl rfl rfl rfl rfl rfl) ?_; rotate_left)
          | ((first | refine' Line.cons rfl (.run rfl rfl ?_) ?_ | refine' Line.cons rfl (.yes rfl rfl rfl rfl ?_) ?_)
             any_goals (first | exact cMove rfl rfl | exact cAssign rfl rfl | exact cNot rfl rfl | exact cPickT rfl rfl rfl | exact cPickF rfl rfl rfl | exact cLss rfl rfl rfl | exact cLeq rfl rfl rfl | exact cGtr rfl rfl rfl | exact cGeq rfl rfl rfl | exact cEql rfl rfl rfl | exact cNeq rfl rfl rfl | exact cExtract rfl rfl rfl)
             rotate_left))
    intro a w3 hF hb hN
    have hBs := hB.size
    replace hB := hB.trans (hb.mono hB.size)
    dsimp only [ext, Option.getD] at hF
    repeat (first | with_reducible refine wp_seq ?_ | with_reducible refine nThen ?_ | with_reducible refine nBlk ?_ | with_reducible refine wp_skip ?_ | with_reducible refine wp_block ?_ | with_reducible refine wp_exit ?_ | with_reducible refine xThen ?_ | with_reducible refine xHere ?_ | with_reducible refine xFar (by decide) ?_ | with_reducible refine wp_ret ?_ | with_reducible refine rThen ?_ | with_reducible refine rBlk ?_)
    refine ret1 hF rfl rfl fun z hz => ?_
    exact ⟨z, rfl, hz, hB⟩
  have e2 : (!decide ((A.length : Int) = (B.length : Int))) = false := by rw [decide_eq_true (by omega)]; rfl
  refine enter_ty 38 [Ty.ex (.agg #[.int .u64 (sa : Int), s]), Ty.ex (.agg #[.int .u64 (sa : Int), s2])] Try.func36 rfl (by kernel_rfl) ⟨rfl, rfl, trivial⟩ fun a hF => ?_
  have hB := Below.refl w.heap.size w
  repeat (first | with_reducible refine wp_seq ?_ | with_reducible refine nThen ?_ | with_reducible refine nBlk ?_ | with_reducible refine wp_skip ?_ | with_reducible refine wp_block ?_ | with_reducible refine wp_exit ?_ | with_reducible refine xThen ?_ | with_reducible refine xHere ?_ | with_reducible refine xFar (by decide) ?_ | with_reducible refine wp_ret ?_ | with_reducible refine rThen ?_ | with_reducible refine rBlk ?_)
  refine' reg_all hF ?_ mixed (by kernel_rfl) ?_
  rotate_left
  · repeat (first
        | exact Line.nil
        | (refine' Line.cons rfl (.no rfl rfl rfl rfl rfl rfl) ?_; rotate_left)
        | ((first | refine' Line.cons rfl (.run rfl rfl ?_) ?_ | refine' Line.cons rfl (.yes rfl rfl rfl rfl ?_) ?_)
           any_goals (first | exact cMove rfl rfl | exact cAssign rfl rfl | exact cNot rfl rfl | exact cBoxTab rfl rfl | exact cPickT rfl rfl rfl | exact cPickF rfl rfl rfl | exact cLss rfl rfl rfl | exact cLeq rfl rfl rfl | exact cGtr rfl rfl rfl | exact cGeq rfl rfl rfl | exact cEql rfl rfl rfl | exact cNeq rfl rfl rfl | exact cExtract rfl rfl rfl)
           rotate_left))
  intro a w1 hF hb hN
  have hBs := hB.size
  replace hB := hB.trans (hb.mono hB.size)
  dsimp only [ext, Option.getD] at hF
  repeat (first | with_reducible refine wp_seq ?_ | with_reducible refine nThen ?_ | with_reducible refine nBlk ?_ | with_reducible refine wp_skip ?_ | with_reducible refine wp_block ?_ | with_reducible refine wp_exit ?_ | with_reducible refine xThen ?_ | with_reducible refine xHere ?_ | with_reducible refine xFar (by decide) ?_ | with_reducible refine wp_ret ?_ | with_reducible refine rThen ?_ | with_reducible refine rBlk ?_)
  have hs1 := TA.below hs hB
  have hs21 := TB.below hs2 hB
  refine' reg_all hF ?_ mixed (by kernel_rfl) ?_
  rotate_left
  · repeat (first
        | exact Line.nil
        | (refine' Line.cons rfl (.no rfl rfl rfl rfl rfl rfl) ?_; rotate_left)
        | ((first | refine' Line.cons rfl (.run rfl rfl ?_) ?_ | refine' Line.cons rfl (.yes rfl rfl rfl rfl ?_) ?_)
           any_goals (first | exact cMove rfl rfl | exact cAssign rfl rfl | exact cNot rfl rfl | exact cFldS83 rfl (.t rfl) | exact cLoadU64 rfl (.t rfl) | exact OpOk.b (cNeq rfl rfl rfl) e1 | exact cFldL83 rfl (.t rfl) | exact cRowOf83 rfl (.t rfl) | exact cLenH rfl (.l rfl hs1) (Ty.sl_isSl _ _ _) Try.underlying50 | exact cLenH rfl (.l rfl hs21) (Ty.sl_isSl _ _ _) Try.underlying50 | exact OpOk.b (cNeq rfl rfl rfl) e2 | exact cPickT rfl rfl rfl | exact cPickF rfl rfl rfl | exact cLss rfl rfl rfl | exact cLeq rfl rfl rfl | exact cGtr rfl rfl rfl | exact cGeq rfl rfl rfl | exact cEql rfl rfl rfl | exact cNeq rfl rfl rfl | exact cExtract rfl rfl rfl)
           rotate_left))
  intro a w2 hF hb hN
  have hBs := hB.size
  replace hB := hB.trans (hb.mono hB.size)
  dsimp only [ext, Option.getD] at hF
  repeat (first | with_reducible refine wp_seq ?_ | with_reducible refine nThen ?_ | with_reducible refine nBlk ?_ | with_reducible refine wp_skip ?_ | with_reducible refine wp_block ?_ | with_reducible refine wp_exit ?_ | with_reducible refine xThen ?_ | with_reducible refine xHere ?_ | with_reducible refine xFar (by decide) ?_ | with_reducible refine wp_ret ?_ | with_reducible refine rThen ?_ | with_reducible refine rBlk ?_)
  refine cond_f hF rfl ?_
  repeat (first | with_reducible refine wp_seq ?_ | with_reducible refine nThen ?_ | with_reducible refine nBlk ?_ | with_reducible refine wp_skip ?_ | with_reducible refine wp_block ?_ | with_reducible refine wp_exit ?_ | with_reducible refine xThen ?_ | with_reducible refine xHere ?_ | with_reducible refine xFar (by decide) ?_ | with_reducible refine wp_ret ?_ | with_reducible refine rThen ?_ | with_reducible refine rBlk ?_)
  refine' reg_all hF ?_ mixed (by kernel_rfl) ?_
  rotate_left
  · repeat (first
        | exact Line.nil
        | (refine' Line.cons rfl (.no rfl rfl rfl rfl rfl rfl) ?_; rotate_left)
        | ((first | refine' Line.cons rfl (.run rfl rfl ?_) ?_ | refine' Line.cons rfl (.yes rfl rfl rfl rfl ?_) ?_)
           any_goals (first | exact cMove rfl rfl | exact cAssign rfl rfl | exact cNot rfl rfl | exact cPickT rfl rfl rfl | exact cPickF rfl rfl rfl | exact cLss rfl rfl rfl | exact cLeq rfl rfl rfl | exact cGtr rfl rfl rfl | exact cGeq rfl rfl rfl | exact cEql rfl rfl rfl | exact cNeq rfl rfl rfl | exact cExtract rfl rfl rfl)
           rotate_left))
  intro a w3 hF hb hN
  have hBs := hB.size
  replace hB := hB.trans (hb.mono hB.size)
  dsimp only [ext, Option.getD] at hF
  repeat (first | with_reducible refine wp_seq ?_ | with_reducible refine nThen ?_ | with_reducible refine nBlk ?_ | with_reducible refine wp_skip ?_ | with_reducible refine wp_block ?_ | with_reducible refine wp_exit ?_ | with_reducible refine xThen ?_ | with_reducible refine xHere ?_ | with_reducible refine xFar (by decide) ?_ | with_reducible refine wp_ret ?_ | with_reducible refine rThen ?_ | with_reducible refine rBlk ?_)
  refine loop_ty (fun m a wr => ∃ k : Nat, k + m = A.length ∧ Fr 38 [(2, Ty.at_ 52 [.int .u64 (sa : Int), s]), (3, Ty.at_ 52 [.int .u64 (sa : Int), s2]), (5, Ty.ex (.int .i64 (k : Int)))] a wr ∧ Below w.heap.size w wr ∧ ∀ j, j < k → A.getD j default = B.getD j default) A.length ?_ ?_
  · exact ⟨0, by omega, hF.keep [2, 3, 5], hB, fun j hj => by omega⟩
  clear hF hB hs1 hs21
  rintro m a wr ⟨k, hk, hF, hB, hlo⟩
  have hsr := TA.below hs hB
  repeat (first | with_reducible refine wp_seq ?_ | with_reducible refine nThen ?_ | with_reducible refine nBlk ?_ | with_reducible refine wp_skip ?_ | with_reducible refine wp_block ?_ | with_reducible refine wp_exit ?_ | with_reducible refine xThen ?_ | with_reducible refine xHere ?_ | with_reducible refine xFar (by decide) ?_ | with_reducible refine wp_ret ?_ | with_reducible refine rThen ?_ | with_reducible refine rBlk ?_)
  refine' reg_all hF ?_ mixed (by kernel_rfl) ?_
  rotate_left
  · repeat (first
        | exact Line.nil
        | (refine' Line.cons rfl (.no rfl rfl rfl rfl rfl rfl) ?_; rotate_left)
        | ((first | refine' Line.cons rfl (.run rfl rfl ?_) ?_ | refine' Line.cons rfl (.yes rfl rfl rfl rfl ?_) ?_)
           any_goals (first | exact cMove rfl rfl | exact cAssign rfl rfl | exact cNot rfl rfl | exact cFldL83 rfl (.t rfl) | exact cRowOf83 rfl (.t rfl) | exact cLenH rfl (.l rfl hsr) (Ty.sl_isSl _ _ _) Try.underlying50 | exact cPickT rfl rfl rfl | exact cPickF rfl rfl rfl | exact cLss rfl rfl rfl | exact cLeq rfl rfl rfl | exact cGtr rfl rfl rfl | exact cGeq rfl rfl rfl | exact cEql rfl rfl rfl | exact cNeq rfl rfl rfl | exact cExtract rfl rfl rfl)
           rotate_left))
  intro a w4 hF hb hN
  have hBs := hB.size
  replace hB := hB.trans (hb.mono hB.size)
  dsimp only [ext, Option.getD] at hF
  repeat (first | with_reducible refine wp_seq ?_ | with_reducible refine nThen ?_ | with_reducible refine nBlk ?_ | with_reducible refine wp_skip ?_ | with_reducible refine wp_block ?_ | with_reducible refine wp_exit ?_ | with_reducible refine xThen ?_ | with_reducible refine xHere ?_ | with_reducible refine xFar (by decide) ?_ | with_reducible refine wp_ret ?_ | with_reducible refine rThen ?_ | with_reducible refine rBlk ?_)
  replace hsr := TA.below hs hB
  have hs2r := TB.below hs2 hB
  refine cond_ty hF rfl (fun hlt => ?_) (fun hge => ?_)
  · have hlt : k < A.length := by have := of_decide_eq_true hlt; omega
    repeat (first | with_reducible refine wp_seq ?_ | with_reducible refine nThen ?_ | with_reducible refine nBlk ?_ | with_reducible refine wp_skip ?_ | with_reducible refine wp_block ?_ | with_reducible refine wp_exit ?_ | with_reducible refine xThen ?_ | with_reducible refine xHere ?_ | with_reducible refine xFar (by decide) ?_ | with_reducible refine wp_ret ?_ | with_reducible refine rThen ?_ | with_reducible refine rBlk ?_)
    refine' reg_all hF ?_ mixed (by kernel_rfl) ?_
    rotate_left
    · repeat (first
          | exact Line.nil
          | (refine' Line.cons rfl (.no rfl rfl rfl rfl rfl rfl) ?_; rotate_left)
          | ((first | refine' Line.cons rfl (.run rfl rfl ?_) ?_ | refine' Line.cons rfl (.yes rfl rfl rfl rfl ?_) ?_)
             any_goals (first | exact cMove rfl rfl | exact cAssign rfl rfl | exact cNot rfl rfl | exact cFldL83 rfl (.t rfl) | exact cRowOf83 rfl (.t rfl) | exact cIndexCl (k := k) rfl (.l rfl hsr) rfl Try.underlying50 info49 hlt | exact cIndexCl (k := k) rfl (.l rfl hs2r) rfl Try.underlying50 info49 (by omega) | exact cLoadCl49 rfl (.t rfl) | exact cNeqAgg rfl rfl rfl guard49 (fun w => neq_cl49 _ _ w) | exact cPickT rfl rfl rfl | exact cPickF rfl rfl rfl | exact cLss rfl rfl rfl | exact cLeq rfl rfl rfl | exact cGtr rfl rfl rfl | exact cGeq rfl rfl rfl | exact cEql rfl rfl rfl | exact cNeq rfl rfl rfl | exact cExtract rfl rfl rfl)
             rotate_left))
    intro a w5 hF hb hN
    have hBs := hB.size
    replace hB := hB.trans (hb.mono hB.size)
    dsimp only [ext, Option.getD] at hF
    repeat (first | with_reducible refine wp_seq ?_ | with_reducible refine nThen ?_ | with_reducible refine nBlk ?_ | with_reducible refine wp_skip ?_ | with_reducible refine wp_block ?_ | with_reducible refine wp_exit ?_ | with_reducible refine xThen ?_ | with_reducible refine xHere ?_ | with_reducible refine xFar (by decide) ?_ | with_reducible refine wp_ret ?_ | with_reducible refine rThen ?_ | with_reducible refine rBlk ?_)
    refine cond_ty hF rfl (fun hbad => ?_) (fun hok => ?_)
    · have hbad : ¬ A.getD k default = B.getD k default := by simpa using hbad
      repeat (first | with_reducible refine wp_seq ?_ | with_reducible refine nThen ?_ | with_reducible refine nBlk ?_ | with_reducible refine wp_skip ?_ | with_reducible refine wp_block ?_ | with_reducible refine wp_exit ?_ | with_reducible refine xThen ?_ | with_reducible refine xHere ?_ | with_reducible refine xFar (by decide) ?_ | with_reducible refine wp_ret ?_ | with_reducible refine rThen ?_ | with_reducible refine rBlk ?_)
      refine' reg_all hF ?_ mixed (by kernel_rfl) ?_
      rotate_left
      · repeat (first
            | exact Line.nil
            | (refine' Line.cons rfl (.no rfl rfl rfl rfl rfl rfl) ?_; rotate_left)
            | ((first | refine' Line.cons rfl (.run rfl rfl ?_) ?_ | refine' Line.cons rfl (.yes rfl rfl rfl rfl ?_) ?_)
               any_goals (first | exact cMove rfl rfl | exact cAssign rfl rfl | exact cNot rfl rfl | exact cPickT rfl rfl rfl | exact cPickF rfl rfl rfl | exact cLss rfl rfl rfl | exact cLeq rfl rfl rfl | exact cGtr rfl rfl rfl | exact cGeq rfl rfl rfl | exact cEql rfl rfl rfl | exact cNeq rfl rfl rfl | exact cExtract rfl rfl rfl)
               rotate_left))
      intro a w6 hF hb hN
      have hBs := hB.size
      replace hB := hB.trans (hb.mono hB.size)
      dsimp only [ext, Option.getD] at hF
      repeat (first | with_reducible refine wp_seq ?_ | with_reducible refine nThen ?_ | with_reducible refine nBlk ?_ | with_reducible refine wp_skip ?_ | with_reducible refine wp_block ?_ | with_reducible refine wp_exit ?_ | with_reducible refine xThen ?_ | with_reducible refine xHere ?_ | with_reducible refine xFar (by decide) ?_ | with_reducible refine wp_ret ?_ | with_reducible refine rThen ?_ | with_reducible refine rBlk ?_)
      refine ret1 hF rfl rfl fun z hz => ?_
      exact ⟨z, rfl, by rw [decide_eq_false (show ¬ A = B from fun h => hbad (by rw [h]))]; exact hz, hB⟩
    · have hok : A.getD k default = B.getD k default := by simpa using hok
      repeat (first | with_reducible refine wp_seq ?_ | with_reducible refine nThen ?_ | with_reducible refine nBlk ?_ | with_reducible refine wp_skip ?_ | with_reducible refine wp_block ?_ | with_reducible refine wp_exit ?_ | with_reducible refine xThen ?_ | with_reducible refine xHere ?_ | with_reducible refine xFar (by decide) ?_ | with_reducible refine wp_ret ?_ | with_reducible refine rThen ?_ | with_reducible refine rBlk ?_)
      refine' reg_all hF ?_ mixed (by kernel_rfl) ?_
      rotate_left
      · repeat (first
            | exact Line.nil
            | (refine' Line.cons rfl (.no rfl rfl rfl rfl rfl rfl) ?_; rotate_left)
            | ((first | refine' Line.cons rfl (.run rfl rfl ?_) ?_ | refine' Line.cons rfl (.yes rfl rfl rfl rfl ?_) ?_)
               any_goals (first | exact cMove rfl rfl | exact cAssign rfl rfl | exact cNot rfl rfl | exact cAdd (r := ((k + 1 : Nat) : Int)) rfl rfl rfl (by omega) | exact cPickT rfl rfl rfl | exact cPickF rfl rfl rfl | exact cLss rfl rfl rfl | exact cLeq rfl rfl rfl | exact cGtr rfl rfl rfl | exact cGeq rfl rfl rfl | exact cEql rfl rfl rfl | exact cNeq rfl rfl rfl | exact cExtract rfl rfl rfl)
               rotate_left))
      intro a w6 hF hb hN
      have hBs := hB.size
      replace hB := hB.trans (hb.mono hB.size)
      dsimp only [ext, Option.getD] at hF
      repeat (first | with_reducible refine wp_seq ?_ | with_reducible refine nThen ?_ | with_reducible refine nBlk ?_ | with_reducible refine wp_skip ?_ | with_reducible refine wp_block ?_ | with_reducible refine wp_exit ?_ | with_reducible refine xThen ?_ | with_reducible refine xHere ?_ | with_reducible refine xFar (by decide) ?_ | with_reducible refine wp_ret ?_ | with_reducible refine rThen ?_ | with_reducible refine rBlk ?_)
      refine ⟨m - 1, by omega, k + 1, by omega, hF.keep [2, 3, 5], hB, fun j hj => ?_⟩
      by_cases hjk : j < k
      · exact hlo j hjk
      · obtain rfl : j = k := by omega
        exact hok
  · have hge : ¬ k < A.length := by have := of_decide_eq_false hge; omega
    repeat (first | with_reducible refine wp_seq ?_ | with_reducible refine nThen ?_ | with_reducible refine nBlk ?_ | with_reducible refine wp_skip ?_ | with_reducible refine wp_block ?_ | with_reducible refine wp_exit ?_ | with_reducible refine xThen ?_ | with_reducible refine xHere ?_ | with_reducible refine xFar (by decide) ?_ | with_reducible refine wp_ret ?_ | with_reducible refine rThen ?_ | with_reducible refine rBlk ?_)
    refine' reg_all hF ?_ mixed (by kernel_rfl) ?_
    rotate_left
    · repeat (first
          | exact Line.nil
          | (refine' Line.cons rfl (.no rfl rfl rfl rfl rfl rfl) ?_; rotate_left)
          | ((first | refine' Line.cons rfl (.run rfl rfl ?_) ?_ | refine' Line.cons rfl (.yes rfl rfl rfl rfl ?_) ?_)
             any_goals (first | exact cMove rfl rfl | exact cAssign rfl rfl | exact cNot rfl rfl | exact cPickT rfl rfl rfl | exact cPickF rfl rfl rfl | exact cLss rfl rfl rfl | exact cLeq rfl rfl rfl | exact cGtr rfl rfl rfl | exact cGeq rfl rfl rfl | exact cEql rfl rfl rfl | exact cNeq rfl rfl rfl | exact cExtract rfl rfl rfl)
             rotate_left))
    intro a w5 hF hb hN
    have hBs := hB.size
    replace hB := hB.trans (hb.mono hB.size)
    dsimp only [ext, Option.getD] at hF
    repeat (first | with_reducible refine wp_seq ?_ | with_reducible refine nThen ?_ | with_reducible refine nBlk ?_ | with_reducible refine wp_skip ?_ | with_reducible refine wp_block ?_ | with_reducible refine wp_exit ?_ | with_reducible refine xThen ?_ | with_reducible refine xHere ?_ | with_reducible refine xFar (by decide) ?_ | with_reducible refine wp_ret ?_ | with_reducible refine rThen ?_ | with_reducible refine rBlk ?_)
    refine ret1 hF rfl rfl fun z hz => ?_
    exact ⟨z, rfl, by rw [decide_eq_true (list_extD hlen fun j hj => hlo j (by omega))]; exact hz, hB⟩
end Go.Proofs.Ytmlbkcpmgcjblaa

/- Layer 14 by types: awake. -/
namespace Go.Proofs.Ytmlbkcpmgcjblaa
open Go.RowKit

section
variable {P : Program} {ops : Array Oper} {Q : Exit → Act → World → Prop} {rest : List Oper} {o o2 : Oper} {a : Act} {w : World} {N : Nat} {Γ : Ctx}
end
end Go.Proofs.Ytmlbkcpmgcjblaa

/- Layer 14 by types: the walk of PlaceParts. -/
namespace Go.Proofs.Ytmlbkcpmgcjblaa
open Go.RowKit

end Go.Proofs.Ytmlbkcpmgcjblaa

/- Layer 14 by types: the document's Places. -/
namespace Go.Proofs.Ytmlbkcpmgcjblaa
open Go.RowKit

theorem shrN (s k : Nat) : ((s : Nat) : Int).fdiv (2 ^ (((8 * k : Nat) : Int)).toNat) = ((s / 256 ^ k : Nat) : Int) := by
  have e : (2 : Nat) ^ (8 * k) = 256 ^ k := by rw [Nat.pow_mul]
  have e2 : ((2 : Int) ^ (8 * k)) = ((256 ^ k : Nat) : Int) := by rw [← e, Int.natCast_pow]; rfl
  rw [Int.toNat_natCast, Int.fdiv_eq_ediv_of_nonneg _ (Int.le_of_lt (Int.pow_pos (by decide))), e2, Int.natCast_ediv]
theorem cAllocV {P : Program} {w0 : World} {Γ : Ctx} {o : Oper} {t : TypeId} {z : Array Value} (ho : o.op = .alloc t) (hz : ∀ w : World, (Instr.alloc t true (.tuple #[])).run P w = .ok (.pointer (some ⟨w.heap.size, 0, none⟩)) (w.alloc (.cells z t))) : OpOk P w0 Γ o (Ty.var w0 t z) :=
  .new fun a w hb _ => ⟨_, _, ⟨w.heap.size, rfl, hb.size, Blk.new w _ _⟩, ((Keeps.refl [] w).alloc _).below, by unfold execOp; simp [ho, hz]⟩
theorem infoRS : (Try.prog.info? 61).map (fun i => (i.zero, i.size, i.bytes)) = some (some (.agg (u8s (List.replicate 32 0))), 32, 32) := by kernel_rfl
set_option maxRecDepth 100000 in
set_option maxHeartbeats 2000000 in
theorem rplaces_ty (seed : Nat) (n : Int) (x : Sm) (hsd : seed < 18446744073709551616) : Fn3 Try.prog 89 (Ty.ex (.int .u64 (seed : Int))) (Ty.ex (.int .i64 n)) (Ty.ex (.agg (u8s x.l))) (Ty.sl 3 (placesN seed n x).length ((placesN seed n x).map ivn)) := by
  refine ⟨fun args w => by kernel_rfl, fun w v u q hv hu hq => ?_⟩
  have hg := goodCells_ty n
  by_cases hgn : goodN n = true
  rotate_left
  · have hgn : goodN n = false := by simpa using hgn
    have e : placesN seed n x = [] := by unfold placesN; rw [hgn]; rfl
    rw [e]
    rw [hgn] at hg
    refine enter_ty 55 [Ty.ex (.int .u64 (seed : Int)), Ty.ex (.int .i64 n), Ty.ex (.agg (u8s x.l))] Try.func89 rfl (by kernel_rfl) ⟨hv, hu, hq, trivial⟩ fun a hF => ?_
    have hB := Below.refl w.heap.size w
    repeat (first | with_reducible refine wp_seq ?_ | with_reducible refine nThen ?_ | with_reducible refine nBlk ?_ | with_reducible refine wp_skip ?_ | with_reducible refine wp_block ?_ | with_reducible refine wp_exit ?_ | with_reducible refine xThen ?_ | with_reducible refine xHere ?_ | with_reducible refine xFar (by decide) ?_ | with_reducible refine wp_ret ?_ | with_reducible refine rThen ?_ | with_reducible refine rBlk ?_)
    refine' reg_all hF ?_ mixed (by kernel_rfl) ?_
    rotate_left
    · repeat (first
          | exact Line.nil
          | (refine' Line.cons rfl (.no rfl rfl rfl rfl rfl rfl) ?_; rotate_left)
          | ((first | refine' Line.cons rfl (.run rfl rfl ?_) ?_ | refine' Line.cons rfl (.yes rfl rfl rfl rfl ?_) ?_)
             any_goals (first | exact cMove rfl rfl | exact cAssign rfl rfl | exact cNot rfl rfl | exact cBoxSum rfl rfl | exact cPickT rfl rfl rfl | exact cPickF rfl rfl rfl | exact cLss rfl rfl rfl | exact cLeq rfl rfl rfl | exact cGtr rfl rfl rfl | exact cGeq rfl rfl rfl | exact cEql rfl rfl rfl | exact cNeq rfl rfl rfl | exact cExtract rfl rfl rfl)
             rotate_left))
    intro a w1 hF hb hN
    have hBs := hB.size
    replace hB := hB.trans (hb.mono hB.size)
    dsimp only [ext, Option.getD] at hF
    repeat (first | with_reducible refine wp_seq ?_ | with_reducible refine nThen ?_ | with_reducible refine nBlk ?_ | with_reducible refine wp_skip ?_ | with_reducible refine wp_block ?_ | with_reducible refine wp_exit ?_ | with_reducible refine xThen ?_ | with_reducible refine xHere ?_ | with_reducible refine xFar (by decide) ?_ | with_reducible refine wp_ret ?_ | with_reducible refine rThen ?_ | with_reducible refine rBlk ?_)
    refine' reg_all hF ?_ mixed (by kernel_rfl) ?_
    rotate_left
    · repeat (first
          | exact Line.nil
          | (refine' Line.cons rfl (.no rfl rfl rfl rfl rfl rfl) ?_; rotate_left)
          | ((first | refine' Line.cons rfl (.run rfl rfl ?_) ?_ | refine' Line.cons rfl (.yes rfl rfl rfl rfl ?_) ?_)
             any_goals (first | exact cMove rfl rfl | exact cAssign rfl rfl | exact cNot rfl rfl | exact cCall1 rfl rfl hg | exact cPickT rfl rfl rfl | exact cPickF rfl rfl rfl | exact cLss rfl rfl rfl | exact cLeq rfl rfl rfl | exact cGtr rfl rfl rfl | exact cGeq rfl rfl rfl | exact cEql rfl rfl rfl | exact cNeq rfl rfl rfl | exact cExtract rfl rfl rfl)
             rotate_left))
    intro a w2 hF hb hN
    have hBs := hB.size
    replace hB := hB.trans (hb.mono hB.size)
    dsimp only [ext, Option.getD] at hF
    repeat (first | with_reducible refine wp_seq ?_ | with_reducible refine nThen ?_ | with_reducible refine nBlk ?_ | with_reducible refine wp_skip ?_ | with_reducible refine wp_block ?_ | with_reducible refine wp_exit ?_ | with_reducible refine xThen ?_ | with_reducible refine xHere ?_ | with_reducible refine xFar (by decide) ?_ | with_reducible refine wp_ret ?_ | with_reducible refine rThen ?_ | with_reducible refine rBlk ?_)
    refine cond_t hF rfl ?_
    repeat (first | with_reducible refine wp_seq ?_ | with_reducible refine nThen ?_ | with_reducible refine nBlk ?_ | with_reducible refine wp_skip ?_ | with_reducible refine wp_block ?_ | with_reducible refine wp_exit ?_ | with_reducible refine xThen ?_ | with_reducible refine xHere ?_ | with_reducible refine xFar (by decide) ?_ | with_reducible refine wp_ret ?_ | with_reducible refine rThen ?_ | with_reducible refine rBlk ?_)
    refine' reg_all hF ?_ mixed (by kernel_rfl) ?_
    rotate_left
    · repeat (first
          | exact Line.nil
          | (refine' Line.cons rfl (.no rfl rfl rfl rfl rfl rfl) ?_; rotate_left)
          | ((first | refine' Line.cons rfl (.run rfl rfl ?_) ?_ | refine' Line.cons rfl (.yes rfl rfl rfl rfl ?_) ?_)
             any_goals (first | exact cMove rfl rfl | exact cAssign rfl rfl | exact cNot rfl rfl | exact cPickT rfl rfl rfl | exact cPickF rfl rfl rfl | exact cLss rfl rfl rfl | exact cLeq rfl rfl rfl | exact cGtr rfl rfl rfl | exact cGeq rfl rfl rfl | exact cEql rfl rfl rfl | exact cNeq rfl rfl rfl | exact cExtract rfl rfl rfl)
             rotate_left))
    intro a w3 hF hb hN
    have hBs := hB.size
    replace hB := hB.trans (hb.mono hB.size)
    dsimp only [ext, Option.getD] at hF
    repeat (first | with_reducible refine wp_seq ?_ | with_reducible refine nThen ?_ | with_reducible refine nBlk ?_ | with_reducible refine wp_skip ?_ | with_reducible refine wp_block ?_ | with_reducible refine wp_exit ?_ | with_reducible refine xThen ?_ | with_reducible refine xHere ?_ | with_reducible refine xFar (by decide) ?_ | with_reducible refine wp_ret ?_ | with_reducible refine rThen ?_ | with_reducible refine rBlk ?_)
    refine ret1 hF rfl rfl fun z hz => ?_
    have hz : z = .slice none 0 0 := hz
    subst hz
    exact ⟨_, rfl, (Seg.nil w3 3 1).sl, hB⟩
  have e : placesN seed n x = plc (placeS seed x) (n.toNat / 3) 3 := by unfold placesN; rw [hgn]; rfl
  rw [e, plc_len]
  have hgd := of_decide_eq_true hgn
  rw [hgn] at hg
  obtain ⟨N, rfl⟩ : ∃ N : Nat, n = (N : Int) := ⟨n.toNat, by omega⟩
  rw [Int.toNat_natCast]
  have hO := r1of_ty ((80 :: leB seed 8) ++ x.l) (Ty.sl 5 41 ((80 :: leB seed 8).map bv ++ x.enc)) (by
    have h : ((80 :: leB seed 8) ++ x.l).length = 41 := by rw [List.length_append, x.len, List.length_cons, leB_len]
    rw [h, List.map_append]
    exact reads_sl _ _ _) (by
    intro y hy
    rcases List.mem_append.1 hy with hy | hy
    · rcases List.mem_cons.1 hy with rfl | hy
      · decide
      · exact leB_lt seed 8 y hy
    · exact x.lt y hy) (by rw [List.length_append, x.len, List.length_cons, leB_len]; decide)
  have hY : shaS ((80 :: leB seed 8) ++ x.l) = placeS seed x := rfl
  rw [hY] at hO
  generalize placeS seed x = Y at *
  clear hY e
  have heP : Enters Try.prog 112 := fun args w => by kernel_rfl
  refine enter_ty 55 [Ty.ex (.int .u64 (seed : Int)), Ty.ex (.int .i64 (N : Int)), Ty.ex (.agg (u8s x.l))] Try.func89 rfl (by kernel_rfl) ⟨hv, hu, hq, trivial⟩ fun a hF => ?_
  have hB := Below.refl w.heap.size w
  repeat (first | with_reducible refine wp_seq ?_ | with_reducible refine nThen ?_ | with_reducible refine nBlk ?_ | with_reducible refine wp_skip ?_ | with_reducible refine wp_block ?_ | with_reducible refine wp_exit ?_ | with_reducible refine xThen ?_ | with_reducible refine xHere ?_ | with_reducible refine xFar (by decide) ?_ | with_reducible refine wp_ret ?_ | with_reducible refine rThen ?_ | with_reducible refine rBlk ?_)
  refine' reg_all hF ?_ mixed (by kernel_rfl) ?_
  rotate_left
  · repeat (first
        | exact Line.nil
        | (refine' Line.cons rfl (.no rfl rfl rfl rfl rfl rfl) ?_; rotate_left)
        | ((first | refine' Line.cons rfl (.run rfl rfl ?_) ?_ | refine' Line.cons rfl (.yes rfl rfl rfl rfl ?_) ?_)
           any_goals (first | exact cMove rfl rfl | exact cAssign rfl rfl | exact cNot rfl rfl | exact cBoxSum rfl rfl | exact cPickT rfl rfl rfl | exact cPickF rfl rfl rfl | exact cLss rfl rfl rfl | exact cLeq rfl rfl rfl | exact cGtr rfl rfl rfl | exact cGeq rfl rfl rfl | exact cEql rfl rfl rfl | exact cNeq rfl rfl rfl | exact cExtract rfl rfl rfl)
           rotate_left))
  intro a w1 hF hb hN
  have hBs := hB.size
  replace hB := hB.trans (hb.mono hB.size)
  dsimp only [ext, Option.getD] at hF
  repeat (first | with_reducible refine wp_seq ?_ | with_reducible refine nThen ?_ | with_reducible refine nBlk ?_ | with_reducible refine wp_skip ?_ | with_reducible refine wp_block ?_ | with_reducible refine wp_exit ?_ | with_reducible refine xThen ?_ | with_reducible refine xHere ?_ | with_reducible refine xFar (by decide) ?_ | with_reducible refine wp_ret ?_ | with_reducible refine rThen ?_ | with_reducible refine rBlk ?_)
  refine' reg_all hF ?_ mixed (by kernel_rfl) ?_
  rotate_left
  · repeat (first
        | exact Line.nil
        | (refine' Line.cons rfl (.no rfl rfl rfl rfl rfl rfl) ?_; rotate_left)
        | ((first | refine' Line.cons rfl (.run rfl rfl ?_) ?_ | refine' Line.cons rfl (.yes rfl rfl rfl rfl ?_) ?_)
           any_goals (first | exact cMove rfl rfl | exact cAssign rfl rfl | exact cNot rfl rfl | exact cCall1 rfl rfl hg | exact cPickT rfl rfl rfl | exact cPickF rfl rfl rfl | exact cLss rfl rfl rfl | exact cLeq rfl rfl rfl | exact cGtr rfl rfl rfl | exact cGeq rfl rfl rfl | exact cEql rfl rfl rfl | exact cNeq rfl rfl rfl | exact cExtract rfl rfl rfl)
           rotate_left))
  intro a w2 hF hb hN
  have hBs := hB.size
  replace hB := hB.trans (hb.mono hB.size)
  dsimp only [ext, Option.getD] at hF
  repeat (first | with_reducible refine wp_seq ?_ | with_reducible refine nThen ?_ | with_reducible refine nBlk ?_ | with_reducible refine wp_skip ?_ | with_reducible refine wp_block ?_ | with_reducible refine wp_exit ?_ | with_reducible refine xThen ?_ | with_reducible refine xHere ?_ | with_reducible refine xFar (by decide) ?_ | with_reducible refine wp_ret ?_ | with_reducible refine rThen ?_ | with_reducible refine rBlk ?_)
  refine cond_f hF rfl ?_
  repeat (first | with_reducible refine wp_seq ?_ | with_reducible refine nThen ?_ | with_reducible refine nBlk ?_ | with_reducible refine wp_skip ?_ | with_reducible refine wp_block ?_ | with_reducible refine wp_exit ?_ | with_reducible refine xThen ?_ | with_reducible refine xHere ?_ | with_reducible refine xFar (by decide) ?_ | with_reducible refine wp_ret ?_ | with_reducible refine rThen ?_ | with_reducible refine rBlk ?_)
  refine' reg_all hF ?_ mixed (by kernel_rfl) ?_
  rotate_left
  · repeat (first
        | exact Line.nil
        | (refine' Line.cons rfl (.no rfl rfl rfl rfl rfl rfl) ?_; rotate_left)
        | ((first | refine' Line.cons rfl (.run rfl rfl ?_) ?_ | refine' Line.cons rfl (.yes rfl rfl rfl rfl ?_) ?_)
           any_goals (first | exact cMove rfl rfl | exact cAssign rfl rfl | exact cNot rfl rfl | exact cBuildB1 rfl rfl | exact cPickT rfl rfl rfl | exact cPickF rfl rfl rfl | exact cLss rfl rfl rfl | exact cLeq rfl rfl rfl | exact cGtr rfl rfl rfl | exact cGeq rfl rfl rfl | exact cEql rfl rfl rfl | exact cNeq rfl rfl rfl | exact cExtract rfl rfl rfl)
           rotate_left))
  intro a w3 hF hb hN
  have hBs := hB.size
  replace hB := hB.trans (hb.mono hB.size)
  dsimp only [ext, Option.getD] at hF
  repeat (first | with_reducible refine wp_seq ?_ | with_reducible refine nThen ?_ | with_reducible refine nBlk ?_ | with_reducible refine wp_skip ?_ | with_reducible refine wp_block ?_ | with_reducible refine wp_exit ?_ | with_reducible refine xThen ?_ | with_reducible refine xHere ?_ | with_reducible refine xFar (by decide) ?_ | with_reducible refine wp_ret ?_ | with_reducible refine rThen ?_ | with_reducible refine rBlk ?_)
  obtain ⟨u7, ⟨S7, hs7, hS7⟩, hF⟩ := hF.open (s := 7) rfl
  repeat (first | with_reducible refine wp_seq ?_ | with_reducible refine nThen ?_ | with_reducible refine nBlk ?_ | with_reducible refine wp_skip ?_ | with_reducible refine wp_block ?_ | with_reducible refine wp_exit ?_ | with_reducible refine xThen ?_ | with_reducible refine xHere ?_ | with_reducible refine xFar (by decide) ?_ | with_reducible refine wp_ret ?_ | with_reducible refine rThen ?_ | with_reducible refine rBlk ?_)
  refine' reg_all hF ?_ mixed (by kernel_rfl) ?_
  rotate_left
  · repeat (first
        | exact Line.nil
        | (refine' Line.cons rfl (.no rfl rfl rfl rfl rfl rfl) ?_; rotate_left)
        | ((first | refine' Line.cons rfl (.run rfl rfl ?_) ?_ | refine' Line.cons rfl (.yes rfl rfl rfl rfl ?_) ?_)
           any_goals (first | exact cMove rfl rfl | exact cAssign rfl rfl | exact cNot rfl rfl | exact cPickT rfl rfl rfl | exact cPickF rfl rfl rfl | exact cLss rfl rfl rfl | exact cLeq rfl rfl rfl | exact cGtr rfl rfl rfl | exact cGeq rfl rfl rfl | exact cEql rfl rfl rfl | exact cNeq rfl rfl rfl | exact cExtract rfl rfl rfl)
           rotate_left))
  intro a w4 hF hb hN
  have hBs := hB.size
  replace hB := hB.trans (hb.mono hB.size)
  dsimp only [ext, Option.getD] at hF
  repeat (first | with_reducible refine wp_seq ?_ | with_reducible refine nThen ?_ | with_reducible refine nBlk ?_ | with_reducible refine wp_skip ?_ | with_reducible refine wp_block ?_ | with_reducible refine wp_exit ?_ | with_reducible refine xThen ?_ | with_reducible refine xHere ?_ | with_reducible refine xFar (by decide) ?_ | with_reducible refine wp_ret ?_ | with_reducible refine rThen ?_ | with_reducible refine rBlk ?_)
  refine loop_ty (fun m a wr => ∃ (k : Nat) (u : Value) (S : List Nat), k + m = 8 ∧ Fr 55 [(0, Ty.ex (.int .u64 (seed : Int))), (1, Ty.ex (.int .i64 (N : Int))), (5, Ty.at_ 61 x.enc), (7, Ty.ex u), (8, Ty.ex (.int .i64 (k : Int)))] a wr ∧ Below w.heap.size w wr ∧ Seg wr 5 1 u (1 + k) ((80 :: leB seed k).map bv) S ∧ ∀ y ∈ S, w.heap.size ≤ y) 8 ?_ ?_
  · exact ⟨0, u7, S7, by omega, hF.keep [0, 1, 5, 7, 8], hB, hs7.below hb, fun y hy => by have := hS7 y hy; omega⟩
  clear hF hB
  rintro m a wr ⟨k, u, S, hk, hF, hB, hseg, hS⟩
  repeat (first | with_reducible refine wp_seq ?_ | with_reducible refine nThen ?_ | with_reducible refine nBlk ?_ | with_reducible refine wp_skip ?_ | with_reducible refine wp_block ?_ | with_reducible refine wp_exit ?_ | with_reducible refine xThen ?_ | with_reducible refine xHere ?_ | with_reducible refine xFar (by decide) ?_ | with_reducible refine wp_ret ?_ | with_reducible refine rThen ?_ | with_reducible refine rBlk ?_)
  refine' reg_all hF ?_ mixed (by kernel_rfl) ?_
  rotate_left
  · repeat (first
        | exact Line.nil
        | (refine' Line.cons rfl (.no rfl rfl rfl rfl rfl rfl) ?_; rotate_left)
        | ((first | refine' Line.cons rfl (.run rfl rfl ?_) ?_ | refine' Line.cons rfl (.yes rfl rfl rfl rfl ?_) ?_)
           any_goals (first | exact cMove rfl rfl | exact cAssign rfl rfl | exact cNot rfl rfl | exact cPickT rfl rfl rfl | exact cPickF rfl rfl rfl | exact cLss rfl rfl rfl | exact cLeq rfl rfl rfl | exact cGtr rfl rfl rfl | exact cGeq rfl rfl rfl | exact cEql rfl rfl rfl | exact cNeq rfl rfl rfl | exact cExtract rfl rfl rfl)
           rotate_left))
  intro a w5 hF hb hN
  have hBs := hB.size
  replace hB := hB.trans (hb.mono hB.size)
  dsimp only [ext, Option.getD] at hF
  repeat (first | with_reducible refine wp_seq ?_ | with_reducible refine nThen ?_ | with_reducible refine nBlk ?_ | with_reducible refine wp_skip ?_ | with_reducible refine wp_block ?_ | with_reducible refine wp_exit ?_ | with_reducible refine xThen ?_ | with_reducible refine xHere ?_ | with_reducible refine xFar (by decide) ?_ | with_reducible refine wp_ret ?_ | with_reducible refine rThen ?_ | with_reducible refine rBlk ?_)
  replace hseg := hseg.below hb
  refine cond_ty hF rfl (fun hlt => ?_) (fun hge => ?_)
  · have hlt : k < 8 := by have := of_decide_eq_true hlt; omega
    have hnx : (80 :: leB seed k).map bv ++ [bv (seed / 256 ^ k % 256)] = (80 :: leB seed (k + 1)).map bv := by rw [leB]; simp
    have hZl : seed / 256 ^ k < 18446744073709551616 := Nat.lt_of_le_of_lt (Nat.div_le_self _ _) hsd
    have hsh := shrN seed k
    generalize seed / 256 ^ k = Z at *
    repeat (first | with_reducible refine wp_seq ?_ | with_reducible refine nThen ?_ | with_reducible refine nBlk ?_ | with_reducible refine wp_skip ?_ | with_reducible refine wp_block ?_ | with_reducible refine wp_exit ?_ | with_reducible refine xThen ?_ | with_reducible refine xHere ?_ | with_reducible refine xFar (by decide) ?_ | with_reducible refine wp_ret ?_ | with_reducible refine rThen ?_ | with_reducible refine rBlk ?_)
    refine' region_ty 8 mixed (by kernel_rfl) hF ?_ ?_
    rotate_left
    · simp only [List.take_succ_cons, List.take_zero]
      repeat (first
          | exact Line.nil
          | (refine' Line.cons rfl (.no rfl rfl rfl rfl rfl rfl) ?_; rotate_left)
          | ((first | refine' Line.cons rfl (.run rfl rfl ?_) ?_ | refine' Line.cons rfl (.yes rfl rfl rfl rfl ?_) ?_)
             any_goals (first | exact cMove rfl rfl | exact cAssign rfl rfl | exact cNot rfl rfl | exact cMul (r := ((8 * k : Nat) : Int)) rfl rfl rfl (by omega) | exact cConvR (r := ((8 * k : Nat) : Int)) rfl rfl Try.underlying3 Try.underlying112 (by rw [IntKind.wrap_u64]; omega) | exact cShr (r := ((Z : Nat) : Int)) rfl rfl rfl ⟨by omega, by simp [IntKind.bits]; omega⟩ hsh | exact cConvR (r := ((Z % 256 : Nat) : Int)) rfl rfl Try.underlying38 Try.underlying5 (by simp [IntKind.wrap, IntKind.bits, IntKind.signed]) | exact cBuildV (vs := [bv (Z % 256)]) rfl (parts1v rfl rfl) Try.underlying70 infoU8 rfl (by simp [Value.cells, bv]) (by decide) (by simp [maxLen]) | exact cPickT rfl rfl rfl | exact cPickF rfl rfl rfl | exact cLss rfl rfl rfl | exact cLeq rfl rfl rfl | exact cGtr rfl rfl rfl | exact cGeq rfl rfl rfl | exact cEql rfl rfl rfl | exact cNeq rfl rfl rfl | exact cExtract rfl rfl rfl)
             rotate_left))
    intro a w6 hF hb hN
    have hBs := hB.size
    replace hB := hB.trans (hb.mono hB.size)
    simp only [List.take_succ_cons, List.take_zero, List.drop_succ_cons, List.drop_zero] at hF hN ⊢
    dsimp only [ext, Option.getD] at hF
    replace hseg := hseg.below hb
    refine tlAppend (Δ := [(0, Ty.ex (.int .u64 (seed : Int))), (1, Ty.ex (.int .i64 (N : Int))), (5, Ty.at_ 61 x.enc), (8, Ty.ex (.int .i64 (k : Int)))]) (n := 1 + k) (m := 1) (news := [bv (Z % 256)]) hF rfl rfl rfl rfl Try.underlying70 infoU8 rfl rfl hseg (.t rfl) sl_news rfl (by simp [bv, Value.oneCell']) (by simp [maxLen]; omega) (by omega) (hF.keep [0, 1, 5, 8]) rfl ?_
    intro a w7 u' S' hF hseg' hk7 hS'
    have hbS : ∀ y ∈ S', w.heap.size ≤ y := own_next hB hS hS'
    replace hB := below_own hB hk7 hS
    rw [hnx] at hseg'
    refine' tlOp hF rfl rfl rfl ?_ ?_
    rotate_left
    · first | exact cMove rfl rfl | exact cAssign rfl rfl | exact cPickT rfl rfl rfl | exact cPickF rfl rfl rfl | exact cNot rfl rfl | exact cLss rfl rfl rfl | exact cLeq rfl rfl rfl | exact cGtr rfl rfl rfl | exact cGeq rfl rfl rfl | exact cEql rfl rfl rfl | exact cNeq rfl rfl rfl | exact cExtract rfl rfl rfl
    intro a w8 hF hb
    have hBs := hB.size
    replace hB := hB.trans (hb.mono hB.size)
    try (refine wpList_nil ?_)
    repeat (first | with_reducible refine wp_seq ?_ | with_reducible refine nThen ?_ | with_reducible refine nBlk ?_ | with_reducible refine wp_skip ?_ | with_reducible refine wp_block ?_ | with_reducible refine wp_exit ?_ | with_reducible refine xThen ?_ | with_reducible refine xHere ?_ | with_reducible refine xFar (by decide) ?_ | with_reducible refine wp_ret ?_ | with_reducible refine rThen ?_ | with_reducible refine rBlk ?_)
    replace hseg' := hseg'.below hb
    refine' reg_all hF ?_ mixed (by kernel_rfl) ?_
    rotate_left
    · repeat (first
          | exact Line.nil
          | (refine' Line.cons rfl (.no rfl rfl rfl rfl rfl rfl) ?_; rotate_left)
          | ((first | refine' Line.cons rfl (.run rfl rfl ?_) ?_ | refine' Line.cons rfl (.yes rfl rfl rfl rfl ?_) ?_)
             any_goals (first | exact cMove rfl rfl | exact cAssign rfl rfl | exact cNot rfl rfl | exact cAdd (r := ((k + 1 : Nat) : Int)) rfl rfl rfl (by omega) | exact cPickT rfl rfl rfl | exact cPickF rfl rfl rfl | exact cLss rfl rfl rfl | exact cLeq rfl rfl rfl | exact cGtr rfl rfl rfl | exact cGeq rfl rfl rfl | exact cEql rfl rfl rfl | exact cNeq rfl rfl rfl | exact cExtract rfl rfl rfl)
             rotate_left))
    intro a w10 hF hb hN
    have hBs := hB.size
    replace hB := hB.trans (hb.mono hB.size)
    dsimp only [ext, Option.getD] at hF
    repeat (first | with_reducible refine wp_seq ?_ | with_reducible refine nThen ?_ | with_reducible refine nBlk ?_ | with_reducible refine wp_skip ?_ | with_reducible refine wp_block ?_ | with_reducible refine wp_exit ?_ | with_reducible refine xThen ?_ | with_reducible refine xHere ?_ | with_reducible refine xFar (by decide) ?_ | with_reducible refine wp_ret ?_ | with_reducible refine rThen ?_ | with_reducible refine rBlk ?_)
    exact ⟨m - 1, by omega, k + 1, u', S', by omega, hF.keep [0, 1, 5, 7, 8], hB, hseg'.below hb, hbS⟩
  have hge : ¬ k < 8 := by have := of_decide_eq_false hge; omega
  obtain rfl : k = 8 := by omega
  have hw5 : w.heap.size ≤ w5.heap.size := hB.size
  repeat (first | with_reducible refine wp_seq ?_ | with_reducible refine nThen ?_ | with_reducible refine nBlk ?_ | with_reducible refine wp_skip ?_ | with_reducible refine wp_block ?_ | with_reducible refine wp_exit ?_ | with_reducible refine xThen ?_ | with_reducible refine xHere ?_ | with_reducible refine xFar (by decide) ?_ | with_reducible refine wp_ret ?_ | with_reducible refine rThen ?_ | with_reducible refine rBlk ?_)
  refine wp_region_lit ?_
  refine' tlOp hF rfl rfl rfl ?_ ?_
  rotate_left
  · first | exact cMove rfl rfl | exact cAssign rfl rfl | exact cPickT rfl rfl rfl | exact cPickF rfl rfl rfl | exact cNot rfl rfl | exact cLss rfl rfl rfl | exact cLeq rfl rfl rfl | exact cGtr rfl rfl rfl | exact cGeq rfl rfl rfl | exact cEql rfl rfl rfl | exact cNeq rfl rfl rfl | exact cExtract rfl rfl rfl
  intro a w6 hF hb
  have hBs := hB.size
  replace hB := hB.trans (hb.mono hB.size)
  try (refine wpList_nil ?_)
  repeat (first | with_reducible refine wp_seq ?_ | with_reducible refine nThen ?_ | with_reducible refine nBlk ?_ | with_reducible refine wp_skip ?_ | with_reducible refine wp_block ?_ | with_reducible refine wp_exit ?_ | with_reducible refine xThen ?_ | with_reducible refine xHere ?_ | with_reducible refine xFar (by decide) ?_ | with_reducible refine wp_ret ?_ | with_reducible refine rThen ?_ | with_reducible refine rBlk ?_)
  replace hseg := hseg.below hb
  refine' tlOp hF rfl rfl rfl ?_ ?_
  rotate_left
  · first | exact cLoadSum rfl (.t rfl) Try.underlying61 sizeR | exact cMove rfl rfl | exact cAssign rfl rfl | exact cPickT rfl rfl rfl | exact cPickF rfl rfl rfl | exact cNot rfl rfl | exact cLss rfl rfl rfl | exact cLeq rfl rfl rfl | exact cGtr rfl rfl rfl | exact cGeq rfl rfl rfl | exact cEql rfl rfl rfl | exact cNeq rfl rfl rfl | exact cExtract rfl rfl rfl
  intro a w7 hF hb
  have hBs := hB.size
  replace hB := hB.trans (hb.mono hB.size)
  try (refine wpList_nil ?_)
  repeat (first | with_reducible refine wp_seq ?_ | with_reducible refine nThen ?_ | with_reducible refine nBlk ?_ | with_reducible refine wp_skip ?_ | with_reducible refine wp_block ?_ | with_reducible refine wp_exit ?_ | with_reducible refine xThen ?_ | with_reducible refine xHere ?_ | with_reducible refine xFar (by decide) ?_ | with_reducible refine wp_ret ?_ | with_reducible refine rThen ?_ | with_reducible refine rBlk ?_)
  replace hseg := hseg.below hb
  refine tlCall rfl rfl rfl (args := #[u, .agg (u8s x.l)]) ?_ heP (R := fun u' w' => (∃ S', Seg w' 5 1 u' 41 ((80 :: leB seed 8).map bv ++ x.enc) S') ∧ Keeps S w7 w') ?_ ?_
  · simp only [List.map_toArray, List.map_cons, List.map_nil, hF.getEx (s := 30) rfl, hF.getEx (s := 31) rfl]
  · refine (putsum_any x u 9 _ S w7 hseg (by decide)).mono fun e w' ⟨u', h1, ⟨S', h2, _⟩, h3⟩ => ⟨u', h1, ⟨S', h2⟩, h3⟩
  rintro u' w8 ⟨⟨S', hs8⟩, hk8⟩
  have hF := ((hF.keep [1]).free hk8 hseg.blocks rfl).put (d := 32) (by decide) (Below.refl _ _) (V := Ty.ex u') rfl
  replace hB := below_own hB hk8 hS
  have hu8 : (Ty.sl 5 41 ((80 :: leB seed 8).map bv ++ x.enc)).p w8 u' := hs8.sl
  refine' tlOp hF rfl rfl rfl ?_ ?_
  rotate_left
  · first | exact cCallH1 rfl (.l rfl hu8) hO | exact cMove rfl rfl | exact cAssign rfl rfl | exact cPickT rfl rfl rfl | exact cPickF rfl rfl rfl | exact cNot rfl rfl | exact cLss rfl rfl rfl | exact cLeq rfl rfl rfl | exact cGtr rfl rfl rfl | exact cGeq rfl rfl rfl | exact cEql rfl rfl rfl | exact cNeq rfl rfl rfl | exact cExtract rfl rfl rfl
  intro a w9 hF hb
  have hBs := hB.size
  replace hB := hB.trans (hb.mono hB.size)
  try (refine wpList_nil ?_)
  repeat (first | with_reducible refine wp_seq ?_ | with_reducible refine nThen ?_ | with_reducible refine nBlk ?_ | with_reducible refine wp_skip ?_ | with_reducible refine wp_block ?_ | with_reducible refine wp_exit ?_ | with_reducible refine xThen ?_ | with_reducible refine xHere ?_ | with_reducible refine xFar (by decide) ?_ | with_reducible refine wp_ret ?_ | with_reducible refine rThen ?_ | with_reducible refine rBlk ?_)
  have hw9 : w.heap.size ≤ w9.heap.size := hB.size
  refine' tlOp hF rfl rfl rfl ?_ ?_
  rotate_left
  · first | exact cAllocV rfl (run_alloc_i infoRS) | exact cMove rfl rfl | exact cAssign rfl rfl | exact cPickT rfl rfl rfl | exact cPickF rfl rfl rfl | exact cNot rfl rfl | exact cLss rfl rfl rfl | exact cLeq rfl rfl rfl | exact cGtr rfl rfl rfl | exact cGeq rfl rfl rfl | exact cEql rfl rfl rfl | exact cNeq rfl rfl rfl | exact cExtract rfl rfl rfl
  intro a w10 hF hb
  have hBs := hB.size
  replace hB := hB.trans (hb.mono hB.size)
  try (refine wpList_nil ?_)
  repeat (first | with_reducible refine wp_seq ?_ | with_reducible refine nThen ?_ | with_reducible refine nBlk ?_ | with_reducible refine wp_skip ?_ | with_reducible refine wp_block ?_ | with_reducible refine wp_exit ?_ | with_reducible refine xThen ?_ | with_reducible refine xHere ?_ | with_reducible refine xFar (by decide) ?_ | with_reducible refine wp_ret ?_ | with_reducible refine rThen ?_ | with_reducible refine rBlk ?_)
  obtain ⟨z, ⟨gx, rfl, hgx, hbx⟩, hF⟩ := hF.open (s := 9) rfl
  have hgx : w9.heap.size ≤ gx := hgx
  have hgx : w.heap.size ≤ gx := Nat.le_trans hw9 hgx
  refine tlStoreV (Δ := [(1, Ty.ex (.int .i64 (N : Int))), (9, Ty.ex (.pointer (some ⟨gx, 0, none⟩)))]) hF rfl rfl rfl rfl (hF.getEx (s := 33) rfl) hbx (by show (u8s _).size = (u8s _).size; rw [u8s_size, u8s_size, Sm.len]; rfl) (by show _ = some (u8s _).size; rw [u8s_size, Sm.len]; exact sizeR) (u8s_one _) (hF.keep [1, 9]) rfl ?_
  intro w11 hF hbx hkx
  refine wpList_nil ?_
  replace hB := below_own hB hkx (by intro y hy; simp only [List.mem_singleton] at hy; omega)
  have hax : (Ty.at_ 61 Y.enc).p w11 (.pointer (some ⟨gx, 0, none⟩)) := by
    have h := blk_at hbx
    rwa [show (Value.agg (u8s Y.l)).cells.toList = Y.enc from u8s_list _] at h
  replace hF := hF.as hF (s := 9) (σ := Ty.at_ 61 Y.enc) rfl (fun v hv => by have hv : v = .pointer (some ⟨gx, 0, none⟩) := hv; subst hv; exact hax)
  obtain ⟨p, hp⟩ : ∃ p, p = N / 3 := ⟨_, rfl⟩
  have hp1 : 1 ≤ p := by omega
  have hp2 : p ≤ 400 := by omega
  rw [← hp]
  repeat (first | with_reducible refine wp_seq ?_ | with_reducible refine nThen ?_ | with_reducible refine nBlk ?_ | with_reducible refine wp_skip ?_ | with_reducible refine wp_block ?_ | with_reducible refine wp_exit ?_ | with_reducible refine xThen ?_ | with_reducible refine xHere ?_ | with_reducible refine xFar (by decide) ?_ | with_reducible refine wp_ret ?_ | with_reducible refine rThen ?_ | with_reducible refine rBlk ?_)
  refine' reg_all hF ?_ mixed (by kernel_rfl) ?_
  rotate_left
  · repeat (first
        | exact Line.nil
        | (refine' Line.cons rfl (.no rfl rfl rfl rfl rfl rfl) ?_; rotate_left)
        | ((first | refine' Line.cons rfl (.run rfl rfl ?_) ?_ | refine' Line.cons rfl (.yes rfl rfl rfl rfl ?_) ?_)
           any_goals (first | exact cMove rfl rfl | exact cAssign rfl rfl | exact cNot rfl rfl | exact cPickT rfl rfl rfl | exact cPickF rfl rfl rfl | exact cLss rfl rfl rfl | exact cLeq rfl rfl rfl | exact cGtr rfl rfl rfl | exact cGeq rfl rfl rfl | exact cEql rfl rfl rfl | exact cNeq rfl rfl rfl | exact cExtract rfl rfl rfl)
           rotate_left))
  intro a w12 hF hb hN
  have hBs := hB.size
  replace hB := hB.trans (hb.mono hB.size)
  dsimp only [ext, Option.getD] at hF
  repeat (first | with_reducible refine wp_seq ?_ | with_reducible refine nThen ?_ | with_reducible refine nBlk ?_ | with_reducible refine wp_skip ?_ | with_reducible refine wp_block ?_ | with_reducible refine wp_exit ?_ | with_reducible refine xThen ?_ | with_reducible refine xHere ?_ | with_reducible refine xFar (by decide) ?_ | with_reducible refine wp_ret ?_ | with_reducible refine rThen ?_ | with_reducible refine rBlk ?_)
  refine' reg_all hF ?_ mixed (by kernel_rfl) ?_
  rotate_left
  · repeat (first
        | exact Line.nil
        | (refine' Line.cons rfl (.no rfl rfl rfl rfl rfl rfl) ?_; rotate_left)
        | ((first | refine' Line.cons rfl (.run rfl rfl ?_) ?_ | refine' Line.cons rfl (.yes rfl rfl rfl rfl ?_) ?_)
           any_goals (first | exact cMove rfl rfl | exact cAssign rfl rfl | exact cNot rfl rfl | exact cQuoI (n := 3) (r := p) rfl rfl rfl (by decide) hp.symm (by omega) | exact cPickT rfl rfl rfl | exact cPickF rfl rfl rfl | exact cLss rfl rfl rfl | exact cLeq rfl rfl rfl | exact cGtr rfl rfl rfl | exact cGeq rfl rfl rfl | exact cEql rfl rfl rfl | exact cNeq rfl rfl rfl | exact cExtract rfl rfl rfl)
           rotate_left))
  intro a w13 hF hb hN
  have hBs := hB.size
  replace hB := hB.trans (hb.mono hB.size)
  dsimp only [ext, Option.getD] at hF
  repeat (first | with_reducible refine wp_seq ?_ | with_reducible refine nThen ?_ | with_reducible refine nBlk ?_ | with_reducible refine wp_skip ?_ | with_reducible refine wp_block ?_ | with_reducible refine wp_exit ?_ | with_reducible refine xThen ?_ | with_reducible refine xHere ?_ | with_reducible refine xFar (by decide) ?_ | with_reducible refine wp_ret ?_ | with_reducible refine rThen ?_ | with_reducible refine rBlk ?_)
  refine' reg_all hF ?_ mixed (by kernel_rfl) ?_
  rotate_left
  · repeat (first
        | exact Line.nil
        | (refine' Line.cons rfl (.no rfl rfl rfl rfl rfl rfl) ?_; rotate_left)
        | ((first | refine' Line.cons rfl (.run rfl rfl ?_) ?_ | refine' Line.cons rfl (.yes rfl rfl rfl rfl ?_) ?_)
           any_goals (first | exact cMove rfl rfl | exact cAssign rfl rfl | exact cNot rfl rfl | exact cPickT rfl rfl rfl | exact cPickF rfl rfl rfl | exact cLss rfl rfl rfl | exact cLeq rfl rfl rfl | exact cGtr rfl rfl rfl | exact cGeq rfl rfl rfl | exact cEql rfl rfl rfl | exact cNeq rfl rfl rfl | exact cExtract rfl rfl rfl)
           rotate_left))
  intro a w14 hF hb hN
  have hBs := hB.size
  replace hB := hB.trans (hb.mono hB.size)
  dsimp only [ext, Option.getD] at hF
  repeat (first | with_reducible refine wp_seq ?_ | with_reducible refine nThen ?_ | with_reducible refine nBlk ?_ | with_reducible refine wp_skip ?_ | with_reducible refine wp_block ?_ | with_reducible refine wp_exit ?_ | with_reducible refine xThen ?_ | with_reducible refine xHere ?_ | with_reducible refine xFar (by decide) ?_ | with_reducible refine wp_ret ?_ | with_reducible refine rThen ?_ | with_reducible refine rBlk ?_)
  refine loop_ty (fun m a wr => ∃ (k : Nat) (u : Value) (S : List Nat), k + m = 3 ∧ Fr 55 [(9, Ty.at_ 61 Y.enc), (11, Ty.ex (.int .i64 (p : Int))), (10, Ty.ex u), (12, Ty.ex (.int .i64 (k : Int)))] a wr ∧ Below w.heap.size w wr ∧ Seg wr 3 1 u k ((plc Y p k).map ivn) S ∧ ∀ y ∈ S, w.heap.size ≤ y) 3 ?_ ?_
  · exact ⟨0, _, [], by omega, hF.keep [9, 11, 10, 12], hB, Seg.nil _ _ _, by simp⟩
  clear hF hB
  rintro m a wr ⟨k, u, S, hk, hF, hB, hseg, hS⟩
  repeat (first | with_reducible refine wp_seq ?_ | with_reducible refine nThen ?_ | with_reducible refine nBlk ?_ | with_reducible refine wp_skip ?_ | with_reducible refine wp_block ?_ | with_reducible refine wp_exit ?_ | with_reducible refine xThen ?_ | with_reducible refine xHere ?_ | with_reducible refine xFar (by decide) ?_ | with_reducible refine wp_ret ?_ | with_reducible refine rThen ?_ | with_reducible refine rBlk ?_)
  refine' reg_all hF ?_ mixed (by kernel_rfl) ?_
  rotate_left
  · repeat (first
        | exact Line.nil
        | (refine' Line.cons rfl (.no rfl rfl rfl rfl rfl rfl) ?_; rotate_left)
        | ((first | refine' Line.cons rfl (.run rfl rfl ?_) ?_ | refine' Line.cons rfl (.yes rfl rfl rfl rfl ?_) ?_)
           any_goals (first | exact cMove rfl rfl | exact cAssign rfl rfl | exact cNot rfl rfl | exact cPickT rfl rfl rfl | exact cPickF rfl rfl rfl | exact cLss rfl rfl rfl | exact cLeq rfl rfl rfl | exact cGtr rfl rfl rfl | exact cGeq rfl rfl rfl | exact cEql rfl rfl rfl | exact cNeq rfl rfl rfl | exact cExtract rfl rfl rfl)
           rotate_left))
  intro a w15 hF hb hN
  have hBs := hB.size
  replace hB := hB.trans (hb.mono hB.size)
  dsimp only [ext, Option.getD] at hF
  repeat (first | with_reducible refine wp_seq ?_ | with_reducible refine nThen ?_ | with_reducible refine nBlk ?_ | with_reducible refine wp_skip ?_ | with_reducible refine wp_block ?_ | with_reducible refine wp_exit ?_ | with_reducible refine xThen ?_ | with_reducible refine xHere ?_ | with_reducible refine xFar (by decide) ?_ | with_reducible refine wp_ret ?_ | with_reducible refine rThen ?_ | with_reducible refine rBlk ?_)
  replace hseg := hseg.below hb
  refine cond_ty hF rfl (fun hlt => ?_) (fun hge => ?_)
  · have hlt : k < 3 := by have := of_decide_eq_true hlt; omega
    have hW := rword_ty Y k (by omega)
    have hWl := word_lt Y k
    have hnx : (plc Y p k).map ivn ++ [ivn (k * p + wordF Y.l k 8 % p)] = (plc Y p (k + 1)).map ivn := by rw [plc]; simp
    have hm : wordF Y.l k 8 % p < p := Nat.mod_lt _ (by omega)
    have hkp : k * p ≤ 2 * p := Nat.mul_le_mul_right _ (by omega)
    generalize wordF Y.l k 8 = V at *
    generalize hM : V % p = M at *
    repeat (first | with_reducible refine wp_seq ?_ | with_reducible refine nThen ?_ | with_reducible refine nBlk ?_ | with_reducible refine wp_skip ?_ | with_reducible refine wp_block ?_ | with_reducible refine wp_exit ?_ | with_reducible refine xThen ?_ | with_reducible refine xHere ?_ | with_reducible refine xFar (by decide) ?_ | with_reducible refine wp_ret ?_ | with_reducible refine rThen ?_ | with_reducible refine rBlk ?_)
    refine' region_ty 13 mixed (by kernel_rfl) hF ?_ ?_
    rotate_left
    · simp only [List.take_succ_cons, List.take_zero]
      repeat (first
          | exact Line.nil
          | (refine' Line.cons rfl (.no rfl rfl rfl rfl rfl rfl) ?_; rotate_left)
          | ((first | refine' Line.cons rfl (.run rfl rfl ?_) ?_ | refine' Line.cons rfl (.yes rfl rfl rfl rfl ?_) ?_)
             any_goals (first | exact cMove rfl rfl | exact cAssign rfl rfl | exact cNot rfl rfl | exact cMul (r := ((k * p : Nat) : Int)) rfl rfl rfl ⟨by rw [Int.natCast_mul], by omega, by omega⟩ | exact cLoadSum rfl (.t rfl) Try.underlying61 sizeR | exact cCall2 rfl rfl rfl hW | exact cConvR (r := (p : Int)) rfl rfl Try.underlying3 Try.underlying38 (by rw [IntKind.wrap_u64]; omega) | exact cRemU (n := p) (r := M) rfl rfl rfl (by omega) hM | exact cConvR (r := (M : Int)) rfl rfl Try.underlying38 Try.underlying3 (IntWalk.i64_in _ (by omega)) | exact cAdd (r := ((k * p + M : Nat) : Int)) rfl rfl rfl ⟨by rw [Int.natCast_add], by omega, by omega⟩ | exact cBuildV (vs := [ivn (k * p + M)]) rfl (parts1v rfl rfl) Try.underlying66 infoInt rfl (by simp [Value.cells, ivn]) (by decide) (by simp [maxLen]) | exact cPickT rfl rfl rfl | exact cPickF rfl rfl rfl | exact cLss rfl rfl rfl | exact cLeq rfl rfl rfl | exact cGtr rfl rfl rfl | exact cGeq rfl rfl rfl | exact cEql rfl rfl rfl | exact cNeq rfl rfl rfl | exact cExtract rfl rfl rfl)
             rotate_left))
    intro a w16 hF hb hN
    have hBs := hB.size
    replace hB := hB.trans (hb.mono hB.size)
    simp only [List.take_succ_cons, List.take_zero, List.drop_succ_cons, List.drop_zero] at hF hN ⊢
    dsimp only [ext, Option.getD] at hF
    replace hseg := hseg.below hb
    refine tlAppend (Δ := [(9, Ty.at_ 61 Y.enc), (11, Ty.ex (.int .i64 (p : Int))), (12, Ty.ex (.int .i64 (k : Int)))]) (n := k) (m := 1) (news := [ivn (k * p + M)]) hF rfl rfl rfl rfl Try.underlying66 infoInt rfl rfl hseg (.t rfl) sl_news rfl (by simp [ivn, Value.oneCell']) (by simp [maxLen]; omega) (by omega) (hF.keep [9, 11, 12]) rfl ?_
    intro a w17 u' S' hF hseg' hk14 hS'
    have hbS : ∀ y ∈ S', w.heap.size ≤ y := own_next hB hS hS'
    replace hB := below_own hB hk14 hS
    rw [hnx] at hseg'
    refine' tlOp hF rfl rfl rfl ?_ ?_
    rotate_left
    · first | exact cMove rfl rfl | exact cAssign rfl rfl | exact cPickT rfl rfl rfl | exact cPickF rfl rfl rfl | exact cNot rfl rfl | exact cLss rfl rfl rfl | exact cLeq rfl rfl rfl | exact cGtr rfl rfl rfl | exact cGeq rfl rfl rfl | exact cEql rfl rfl rfl | exact cNeq rfl rfl rfl | exact cExtract rfl rfl rfl
    intro a w18 hF hb
    have hBs := hB.size
    replace hB := hB.trans (hb.mono hB.size)
    try (refine wpList_nil ?_)
    repeat (first | with_reducible refine wp_seq ?_ | with_reducible refine nThen ?_ | with_reducible refine nBlk ?_ | with_reducible refine wp_skip ?_ | with_reducible refine wp_block ?_ | with_reducible refine wp_exit ?_ | with_reducible refine xThen ?_ | with_reducible refine xHere ?_ | with_reducible refine xFar (by decide) ?_ | with_reducible refine wp_ret ?_ | with_reducible refine rThen ?_ | with_reducible refine rBlk ?_)
    replace hseg' := hseg'.below hb
    refine' reg_all hF ?_ mixed (by kernel_rfl) ?_
    rotate_left
    · repeat (first
          | exact Line.nil
          | (refine' Line.cons rfl (.no rfl rfl rfl rfl rfl rfl) ?_; rotate_left)
          | ((first | refine' Line.cons rfl (.run rfl rfl ?_) ?_ | refine' Line.cons rfl (.yes rfl rfl rfl rfl ?_) ?_)
             any_goals (first | exact cMove rfl rfl | exact cAssign rfl rfl | exact cNot rfl rfl | exact cAdd (r := ((k + 1 : Nat) : Int)) rfl rfl rfl (by omega) | exact cPickT rfl rfl rfl | exact cPickF rfl rfl rfl | exact cLss rfl rfl rfl | exact cLeq rfl rfl rfl | exact cGtr rfl rfl rfl | exact cGeq rfl rfl rfl | exact cEql rfl rfl rfl | exact cNeq rfl rfl rfl | exact cExtract rfl rfl rfl)
             rotate_left))
    intro a w19 hF hb hN
    have hBs := hB.size
    replace hB := hB.trans (hb.mono hB.size)
    dsimp only [ext, Option.getD] at hF
    repeat (first | with_reducible refine wp_seq ?_ | with_reducible refine nThen ?_ | with_reducible refine nBlk ?_ | with_reducible refine wp_skip ?_ | with_reducible refine wp_block ?_ | with_reducible refine wp_exit ?_ | with_reducible refine xThen ?_ | with_reducible refine xHere ?_ | with_reducible refine xFar (by decide) ?_ | with_reducible refine wp_ret ?_ | with_reducible refine rThen ?_ | with_reducible refine rBlk ?_)
    exact ⟨m - 1, by omega, k + 1, u', S', by omega, hF.keep [9, 11, 10, 12], hB, hseg'.below hb, hbS⟩
  have hge : ¬ k < 3 := by have := of_decide_eq_false hge; omega
  obtain rfl : k = 3 := by omega
  repeat (first | with_reducible refine wp_seq ?_ | with_reducible refine nThen ?_ | with_reducible refine nBlk ?_ | with_reducible refine wp_skip ?_ | with_reducible refine wp_block ?_ | with_reducible refine wp_exit ?_ | with_reducible refine xThen ?_ | with_reducible refine xHere ?_ | with_reducible refine xFar (by decide) ?_ | with_reducible refine wp_ret ?_ | with_reducible refine rThen ?_ | with_reducible refine rBlk ?_)
  refine' reg_all hF ?_ mixed (by kernel_rfl) ?_
  rotate_left
  · repeat (first
        | exact Line.nil
        | (refine' Line.cons rfl (.no rfl rfl rfl rfl rfl rfl) ?_; rotate_left)
        | ((first | refine' Line.cons rfl (.run rfl rfl ?_) ?_ | refine' Line.cons rfl (.yes rfl rfl rfl rfl ?_) ?_)
           any_goals (first | exact cMove rfl rfl | exact cAssign rfl rfl | exact cNot rfl rfl | exact cPickT rfl rfl rfl | exact cPickF rfl rfl rfl | exact cLss rfl rfl rfl | exact cLeq rfl rfl rfl | exact cGtr rfl rfl rfl | exact cGeq rfl rfl rfl | exact cEql rfl rfl rfl | exact cNeq rfl rfl rfl | exact cExtract rfl rfl rfl)
           rotate_left))
  intro a w16 hF hb hN
  have hBs := hB.size
  replace hB := hB.trans (hb.mono hB.size)
  dsimp only [ext, Option.getD] at hF
  repeat (first | with_reducible refine wp_seq ?_ | with_reducible refine nThen ?_ | with_reducible refine nBlk ?_ | with_reducible refine wp_skip ?_ | with_reducible refine wp_block ?_ | with_reducible refine wp_exit ?_ | with_reducible refine xThen ?_ | with_reducible refine xHere ?_ | with_reducible refine xFar (by decide) ?_ | with_reducible refine wp_ret ?_ | with_reducible refine rThen ?_ | with_reducible refine rBlk ?_)
  refine ret1 hF rfl rfl fun z hz => ?_
  have hz : z = u := hz
  subst hz
  exact ⟨z, rfl, (hseg.below hb).sl, hB⟩
end Go.Proofs.Ytmlbkcpmgcjblaa

/- Layer 15 by types: the document's Minus, Put. -/
namespace Go.Proofs.Ytmlbkcpmgcjblaa
open Go.RowKit

/-- A table whose row is of the region's own. -/
def OTy.tab (w0 : World) (e : TypeId) (seed : Nat) (L : List Cl) : OTy := ⟨Ty.tabO w0 e seed L, fun w v S => ∃ s, v = .agg #[.int .u64 (seed : Int), s] ∧ Seg w e 65 s L.length (flatC L) S ∧ ∀ y ∈ S, w0.heap.size ≤ y, fun ⟨s, h1, h2, h3⟩ => ⟨s, h1, _, h2, h3⟩, fun ⟨s, h1, h2, h3⟩ k hd => ⟨s, h1, h2.keeps k hd, h3⟩, fun ⟨_, _, h2, _⟩ b hb => h2.lt b hb⟩
theorem tkBuildTab {P : Program} {w0 : World} {Γ : Ctx} {o : Oper} {t e : TypeId} {x : Operand} {s : Nat} {seed : Nat} {L : List Cl} (ho : o.op = .build t #[(0, x), (1, .tmp s)]) (hx : OpT Γ x (Ty.ex (.int .u64 (seed : Int)))) (hr : ∀ (s : Value), (∃ A l c, s = .slice A l c) → ∀ w : World, (Instr.build t #[(0, .int .u64 (seed : Int)), (1, s)]).run P w = .ok (.agg #[.int .u64 (seed : Int), s]) w) : OpTk P w0 Γ o (OTy.seg w0 e 65 L.length (flatC L)) (OTy.tab w0 e seed L) s := fun a w S0 K Q hb hs ⟨v, hv1, hv2, hv3⟩ hK => by
  obtain ⟨u, h1, h2⟩ := sees_of hs x _ (by simp [ho, Op.operands]) hx
  have h2 : u = .int .u64 (seed : Int) := h2
  subst h2
  have ev : a.eval (.tmp s) = v := by simp [Act.eval, Array.getD_eq_getD_getElem?, hv1]
  have h : (execOp a.eval o).run P w = .ok (.value (.agg #[.int .u64 (seed : Int), v])) w := by
    unfold execOp
    simp only [ho]
    have e1 : ((#[(0, x), (1, .tmp s)] : Array (Nat × Operand)).map fun (i, x) => (i, a.eval x)) = #[(0, .int .u64 (seed : Int)), (1, v)] := by simp [h1, ev]
    rw [e1, Sem.run_bind, hr v (seg_isA hv2) w]
    rfl
  unfold Oper.wp
  rw [h]
  exact hK _ w S0 ⟨v, rfl, hv2, hv3⟩ (fun b hb => .inl hb) (Keeps.refl _ _)
theorem tkBuildTabE {P : Program} {w0 : World} {Γ : Ctx} {o : Oper} {t e : TypeId} {x : Operand} {s : Nat} {seed : Nat} {L : List Cl} (ho : o.op = .build t #[(0, x), (1, .tmp s)]) (hx : OpT Γ x (Ty.ex (.int .u64 (seed : Int)))) (hr : ∀ (s : Value), (∃ A l c, s = .slice A l c) → ∀ w : World, (Instr.build t #[(0, .int .u64 (seed : Int)), (1, s)]).run P w = .ok (.agg #[.int .u64 (seed : Int), s]) w) : OpTk P w0 Γ o (OTy.seg w0 e 65 (0 + L.length) ([] ++ flatC L)) (OTy.tab w0 e seed L) s := by
  rw [Nat.zero_add, List.nil_append]
  exact tkBuildTab ho hx hr
theorem at_split {w : World} {e : TypeId} {a b v : Value} (h : (Ty.at_ e [a, b]).p w v) : ∃ g o, v = .pointer (some ⟨g, o, none⟩) ∧ (Ty.at_ e [a, b]).p w (.pointer (some ⟨g, o + 0, none⟩)) ∧ (Ty.at_ e [b]).p w (.pointer (some ⟨g, o + 1, none⟩)) := by
  obtain ⟨g, o, cs, fr, rfl, h2, h3⟩ := h
  refine ⟨g, o, rfl, ⟨g, o, cs, fr, rfl, h2, h3⟩, ⟨g, o + 1, cs, fr, rfl, h2, fun j u hu => ?_⟩⟩
  have := h3 (j + 1) u (by simpa using hu)
  rw [show o + 1 + j = o + (j + 1) by omega]
  exact this
set_option maxRecDepth 100000 in
set_option maxHeartbeats 2000000 in
theorem rput_ty (seed : Nat) (L : List Cl) (x : Sm) (n : Int) (hL : L.length ≤ 1000000) (hsd : seed < 18446744073709551616) : FnR3 Try.prog 44 (Ty.tab 105 seed L) (Ty.ex (.agg (u8s x.l))) (Ty.ex (.int .i64 n)) (fun w => Ty.tabO w 105 seed (tput seed L x n)) := by
  refine ⟨fun args w => by kernel_rfl, fun w v u q ⟨s, hv, hs⟩ hu hq => ?_⟩
  subst hv
  let TL := Ty.cls 105 L
  have l0 := flatC_len L
  refine enter_ty 49 [Ty.ex (.agg #[.int .u64 (seed : Int), s]), Ty.ex (.agg (u8s x.l)), Ty.ex (.int .i64 n)] Try.func44 rfl (by kernel_rfl) ⟨rfl, hu, hq, trivial⟩ fun a hF => ?_
  have hB := Below.refl w.heap.size w
  repeat (first | with_reducible refine wp_seq ?_ | with_reducible refine nThen ?_ | with_reducible refine nBlk ?_ | with_reducible refine wp_skip ?_ | with_reducible refine wp_block ?_ | with_reducible refine wp_exit ?_ | with_reducible refine xThen ?_ | with_reducible refine xHere ?_ | with_reducible refine xFar (by decide) ?_ | with_reducible refine wp_ret ?_ | with_reducible refine rThen ?_ | with_reducible refine rBlk ?_)
  refine' reg_all hF ?_ mixed (by kernel_rfl) ?_
  rotate_left
  · repeat (first
        | exact Line.nil
        | (refine' Line.cons rfl (.no rfl rfl rfl rfl rfl rfl) ?_; rotate_left)
        | (refine' Line.cons rfl (.new rfl rfl (run_alloc_i infoT83) rfl) ?_; rotate_left)
        | ((first | refine' Line.cons rfl (.run rfl rfl ?_) ?_ | refine' Line.cons rfl (.yes rfl rfl rfl rfl ?_) ?_)
           any_goals (first | exact cMove rfl rfl | exact cAssign rfl rfl | exact cNot rfl rfl | exact cBoxTab rfl rfl | exact cBoxSum rfl rfl | exact cPickT rfl rfl rfl | exact cPickF rfl rfl rfl | exact cLss rfl rfl rfl | exact cLeq rfl rfl rfl | exact cGtr rfl rfl rfl | exact cGeq rfl rfl rfl | exact cEql rfl rfl rfl | exact cNeq rfl rfl rfl | exact cExtract rfl rfl rfl)
           rotate_left))
  intro a w1 hF hb hN
  have hBs := hB.size
  replace hB := hB.trans (hb.mono hB.size)
  dsimp only [ext, Option.getD] at hF
  repeat (first | with_reducible refine wp_seq ?_ | with_reducible refine nThen ?_ | with_reducible refine nBlk ?_ | with_reducible refine wp_skip ?_ | with_reducible refine wp_block ?_ | with_reducible refine wp_exit ?_ | with_reducible refine xThen ?_ | with_reducible refine xHere ?_ | with_reducible refine xFar (by decide) ?_ | with_reducible refine wp_ret ?_ | with_reducible refine rThen ?_ | with_reducible refine rBlk ?_)
  obtain ⟨z, ⟨g6, rfl, hg6, hb6⟩, hF⟩ := hF.open (s := 6) rfl
  have hg6 : w.heap.size ≤ g6 := hg6
  obtain ⟨p3, hp3, hF3⟩ := hF.open (s := 3) rfl
  obtain ⟨g3, o3, ep3, hpS, hpL⟩ := at_split hp3
  rw [ep3] at hF3
  replace hF := hF3
  have hs1 := TL.below hs hB
  have hB0 := hB
  have hw1 := hB.size
  have hlt6 := hb6.lt
  replace hB := Below.refl w1.heap.size w1
  repeat (first | with_reducible refine wp_seq ?_ | with_reducible refine nThen ?_ | with_reducible refine nBlk ?_ | with_reducible refine wp_skip ?_ | with_reducible refine wp_block ?_ | with_reducible refine wp_exit ?_ | with_reducible refine xThen ?_ | with_reducible refine xHere ?_ | with_reducible refine xFar (by decide) ?_ | with_reducible refine wp_ret ?_ | with_reducible refine rThen ?_ | with_reducible refine rBlk ?_)
  refine' region_own 8 [(5, 12), (6, 15)] mixed (by kernel_rfl) hF ?_ ?_
  rotate_left
  · simp only [List.take_succ_cons, List.take_zero]
    repeat (first
        | exact LineO.nil
        | (refine' LineO.cons rfl rfl (.no rfl rfl rfl rfl rfl) ?_; rotate_left)
        | ((first | refine' LineO.cons rfl rfl (.run rfl ?_) ?_ | refine' LineO.cons rfl rfl (.yes rfl rfl rfl ?_) ?_)
           any_goals (first | exact .ex (cMove rfl rfl) | exact .ex (cAssign rfl rfl) | exact .ex (cNot rfl rfl) | exact .ex (cFieldExE rfl rfl Try.underlying52 rfl size_u64) | exact .ex (cFieldExE rfl rfl Try.underlying52 rfl size_row83) | exact .ex (cLoadU64 rfl (.l rfl hpS)) | exact oBuild0 rfl Try.underlying50 infoC49 | exact .ex (cRowOf83 rfl (.l rfl hpL)) | exact oAlloc rfl (run_alloc_i infoT83) | exact .ex (cPickT rfl rfl rfl) | exact .ex (cPickF rfl rfl rfl) | exact .ex (cLss rfl rfl rfl) | exact .ex (cLeq rfl rfl rfl) | exact .ex (cGtr rfl rfl rfl) | exact .ex (cGeq rfl rfl rfl) | exact .ex (cEql rfl rfl rfl) | exact .ex (cNeq rfl rfl rfl) | exact .ex (cExtract rfl rfl rfl))
           rotate_left)
        | ((first | refine' LineO.take rfl rfl rfl (.run rfl ?_) ?_ | refine' LineO.take rfl rfl rfl (.yes rfl rfl rfl ?_) ?_)
           any_goals (first | exact tkAppend (m := L.length) (news := flatC L) rfl Try.underlying50 infoC49 zero65_cells (.l rfl hs1) sl_news l0 flatC_one' (by simp [maxLen]; omega) (by omega) | exact tkBuildTabE (L := L) rfl rfl (fun s hs w => buildT83 _ hs w))
           rotate_left))
  intro a w2 hF hb hN
  have hBs := hb.size
  replace hB := hB.trans (hb.mono hB.size)
  simp only [List.take_succ_cons, List.take_zero, List.drop_succ_cons, List.drop_zero] at hF hN ⊢
  dsimp only [hideT, List.foldr, extO, Option.getD, OTy.ex, OTy.seg, OTy.slo, OTy.var, OTy.tab] at hF
  obtain ⟨F, hown, hdis⟩ := hN
  obtain ⟨_, k16, ⟨s16, rfl, hsg, hS⟩, hw16⟩ := hown 6 _ 16 _ rfl rfl rfl (by simp)
  obtain ⟨_, k7, ⟨g7, rfl, hF7, hg7, hb7⟩, hw7⟩ := hown 7 _ 7 _ rfl rfl rfl (by simp)
  generalize F 6 = S at *
  replace hF := (hF.letter k7).letter k16
  clear hown hdis k7 k16 hw16 hw7 hF7
  have hx4 := hF.get (s := 4) rfl
  obtain ⟨p4, hp4, hF⟩ := hF.open (s := 4) rfl
  refine tlStoreV (Δ := [(2, Ty.ex q), (4, Ty.ex p4), (6, Ty.ex (.pointer (some ⟨g6, 0, none⟩))), (7, Ty.ex (.pointer (some ⟨g7, 0, none⟩))), (3, Ty.ex (.pointer (some ⟨g3, o3, none⟩)))]) hF rfl rfl rfl rfl (hF.getEx (s := 16) rfl) hb7 rfl sizeT83 (sl_one hsg.sl _) ?_ rfl ?_
  · have hq' : q = .int .i64 n := hq
    rw [hq']
    exact hF.keep [2, 4, 6, 7, 3]
  intro w3 hF hb7' hkx
  refine wpList_nil ?_
  replace hsg := hsg.keeps hkx (seg_far hsg hb7 (by decide))
  have hp4 : (Ty.at_ 61 x.enc).p w3 p4 := (Ty.at_ 61 x.enc).far hp4 hkx hb7 rfl
  replace hB := below_own hB hkx (by intro y hy; simp only [List.mem_singleton] at hy; omega)
  replace hb7 : Blk w3 g7 52 #[.int .u64 (seed : Int), s16] := hb7'
  clear hb7' hkx hx4
  have hpS3 := (Ty.at_ 52 [.int .u64 (seed : Int), s]).below hpS hB
  have hpL3 := (Ty.at_ 52 [s]).below hpL hB
  have hs3 := TL.below hs1 hB
  have hPp := rplaces_ty seed (L.length : Int) x hsd
  have hPl3 := placesN_len3 seed (L.length : Int) x
  have hPd : ∀ j, j < (placesN seed (L.length : Int) x).length → (placesN seed (L.length : Int) x).getD j 0 < L.length := fun j hj => places_lt seed L.length x _ (getD_mem hj)
  have hput : tput seed L x n = (placesN seed (L.length : Int) x).foldl (fun L i => tputAt L i x n) L := rfl
  generalize placesN seed (L.length : Int) x = PL at *
  repeat (first | with_reducible refine wp_seq ?_ | with_reducible refine nThen ?_ | with_reducible refine nBlk ?_ | with_reducible refine wp_skip ?_ | with_reducible refine wp_block ?_ | with_reducible refine wp_exit ?_ | with_reducible refine xThen ?_ | with_reducible refine xHere ?_ | with_reducible refine xFar (by decide) ?_ | with_reducible refine wp_ret ?_ | with_reducible refine rThen ?_ | with_reducible refine rBlk ?_)
  refine' reg_all hF ?_ mixed (by kernel_rfl) ?_
  rotate_left
  · repeat (first
        | exact Line.nil
        | (refine' Line.cons rfl (.no rfl rfl rfl rfl rfl rfl) ?_; rotate_left)
        | ((first | refine' Line.cons rfl (.run rfl rfl ?_) ?_ | refine' Line.cons rfl (.yes rfl rfl rfl rfl ?_) ?_)
           any_goals (first | exact cMove rfl rfl | exact cAssign rfl rfl | exact cNot rfl rfl | exact cFieldExE rfl rfl Try.underlying52 rfl size_u64 | exact cFieldExE rfl rfl Try.underlying52 rfl size_row83 | exact cLoadU64 rfl (.l rfl hpS3) | exact cRowOf83 rfl (.l rfl hpL3) | exact cLenH rfl (.l rfl hs3) (Ty.sl_isSl _ _ _) Try.underlying50 | exact cLoadSum rfl (.l rfl hp4) Try.underlying61 sizeR | exact cCall3 rfl rfl rfl rfl hPp | exact cPickT rfl rfl rfl | exact cPickF rfl rfl rfl | exact cLss rfl rfl rfl | exact cLeq rfl rfl rfl | exact cGtr rfl rfl rfl | exact cGeq rfl rfl rfl | exact cEql rfl rfl rfl | exact cNeq rfl rfl rfl | exact cExtract rfl rfl rfl)
           rotate_left))
  intro a w4 hF hb hN
  have hBs := hB.size
  replace hB := hB.trans (hb.mono hB.size)
  dsimp only [ext, Option.getD] at hF
  repeat (first | with_reducible refine wp_seq ?_ | with_reducible refine nThen ?_ | with_reducible refine nBlk ?_ | with_reducible refine wp_skip ?_ | with_reducible refine wp_block ?_ | with_reducible refine wp_exit ?_ | with_reducible refine xThen ?_ | with_reducible refine xHere ?_ | with_reducible refine xFar (by decide) ?_ | with_reducible refine wp_ret ?_ | with_reducible refine rThen ?_ | with_reducible refine rBlk ?_)
  replace hb7 := hb7.below hb
  replace hsg := hsg.below hb
  replace hp4 : (Ty.at_ 61 x.enc).p w4 p4 := (Ty.at_ 61 x.enc).below hp4 hb
  obtain ⟨v8, hv8, hF⟩ := hF.open (s := 8) rfl
  repeat (first | with_reducible refine wp_seq ?_ | with_reducible refine nThen ?_ | with_reducible refine nBlk ?_ | with_reducible refine wp_skip ?_ | with_reducible refine wp_block ?_ | with_reducible refine wp_exit ?_ | with_reducible refine xThen ?_ | with_reducible refine xHere ?_ | with_reducible refine xFar (by decide) ?_ | with_reducible refine wp_ret ?_ | with_reducible refine rThen ?_ | with_reducible refine rBlk ?_)
  refine' reg_all hF ?_ mixed (by kernel_rfl) ?_
  rotate_left
  · repeat (first
        | exact Line.nil
        | (refine' Line.cons rfl (.no rfl rfl rfl rfl rfl rfl) ?_; rotate_left)
        | ((first | refine' Line.cons rfl (.run rfl rfl ?_) ?_ | refine' Line.cons rfl (.yes rfl rfl rfl rfl ?_) ?_)
           any_goals (first | exact cMove rfl rfl | exact cAssign rfl rfl | exact cNot rfl rfl | exact cPickT rfl rfl rfl | exact cPickF rfl rfl rfl | exact cLss rfl rfl rfl | exact cLeq rfl rfl rfl | exact cGtr rfl rfl rfl | exact cGeq rfl rfl rfl | exact cEql rfl rfl rfl | exact cNeq rfl rfl rfl | exact cExtract rfl rfl rfl)
           rotate_left))
  intro a w5 hF hb hN
  have hBs := hB.size
  replace hB := hB.trans (hb.mono hB.size)
  dsimp only [ext, Option.getD] at hF
  repeat (first | with_reducible refine wp_seq ?_ | with_reducible refine nThen ?_ | with_reducible refine nBlk ?_ | with_reducible refine wp_skip ?_ | with_reducible refine wp_block ?_ | with_reducible refine wp_exit ?_ | with_reducible refine xThen ?_ | with_reducible refine xHere ?_ | with_reducible refine xFar (by decide) ?_ | with_reducible refine wp_ret ?_ | with_reducible refine rThen ?_ | with_reducible refine rBlk ?_)
  replace hb7 := hb7.below hb
  replace hsg := hsg.below hb
  replace hp4 : (Ty.at_ 61 x.enc).p w5 p4 := (Ty.at_ 61 x.enc).below hp4 hb
  replace hv8 : (Ty.sl 3 PL.length (PL.map ivn)).p w5 v8 := (Ty.sl 3 PL.length (PL.map ivn)).below hv8 hb
  have hq' : q = .int .i64 n := hq
  rw [hq'] at hF
  refine loop_ty (fun m a wr => ∃ j : Nat, j + m = PL.length ∧ Fr 49 [(2, Ty.ex (.int .i64 n)), (4, Ty.ex p4), (6, Ty.ex (.pointer (some ⟨g6, 0, none⟩))), (7, Ty.ex (.pointer (some ⟨g7, 0, none⟩))), (8, Ty.ex v8), (9, Ty.ex (.int .i64 (j : Int)))] a wr ∧ Below w1.heap.size w1 wr ∧ Blk wr g7 52 #[.int .u64 (seed : Int), s16] ∧ Seg wr 105 65 s16 L.length (flatC ((PL.take j).foldl (fun L i => tputAt L i x n) L)) S ∧ (Ty.at_ 61 x.enc).p wr p4 ∧ (Ty.sl 3 PL.length (PL.map ivn)).p wr v8) PL.length ?_ ?_
  · exact ⟨0, by omega, hF.keep [2, 4, 6, 7, 8, 9], hB, hb7, hsg, hp4, hv8⟩
  clear hF hB hb7 hsg hp4 hv8 hpS3 hpL3 hs3
  rintro m a wr ⟨j, hj, hF, hB, hb7, hsg, hp4, hv8⟩
  repeat (first | with_reducible refine wp_seq ?_ | with_reducible refine nThen ?_ | with_reducible refine nBlk ?_ | with_reducible refine wp_skip ?_ | with_reducible refine wp_block ?_ | with_reducible refine wp_exit ?_ | with_reducible refine xThen ?_ | with_reducible refine xHere ?_ | with_reducible refine xFar (by decide) ?_ | with_reducible refine wp_ret ?_ | with_reducible refine rThen ?_ | with_reducible refine rBlk ?_)
  refine' reg_all hF ?_ mixed (by kernel_rfl) ?_
  rotate_left
  · repeat (first
        | exact Line.nil
        | (refine' Line.cons rfl (.no rfl rfl rfl rfl rfl rfl) ?_; rotate_left)
        | ((first | refine' Line.cons rfl (.run rfl rfl ?_) ?_ | refine' Line.cons rfl (.yes rfl rfl rfl rfl ?_) ?_)
           any_goals (first | exact cMove rfl rfl | exact cAssign rfl rfl | exact cNot rfl rfl | exact cLenH rfl (.l rfl hv8) (Ty.sl_isSl _ _ _) Try.underlying66 | exact cPickT rfl rfl rfl | exact cPickF rfl rfl rfl | exact cLss rfl rfl rfl | exact cLeq rfl rfl rfl | exact cGtr rfl rfl rfl | exact cGeq rfl rfl rfl | exact cEql rfl rfl rfl | exact cNeq rfl rfl rfl | exact cExtract rfl rfl rfl)
           rotate_left))
  intro a w6 hF hb hN
  have hBs := hB.size
  replace hB := hB.trans (hb.mono hB.size)
  dsimp only [ext, Option.getD] at hF
  repeat (first | with_reducible refine wp_seq ?_ | with_reducible refine nThen ?_ | with_reducible refine nBlk ?_ | with_reducible refine wp_skip ?_ | with_reducible refine wp_block ?_ | with_reducible refine wp_exit ?_ | with_reducible refine xThen ?_ | with_reducible refine xHere ?_ | with_reducible refine xFar (by decide) ?_ | with_reducible refine wp_ret ?_ | with_reducible refine rThen ?_ | with_reducible refine rBlk ?_)
  replace hb7 := hb7.below hb
  replace hsg := hsg.below hb
  replace hp4 : (Ty.at_ 61 x.enc).p w6 p4 := (Ty.at_ 61 x.enc).below hp4 hb
  replace hv8 : (Ty.sl 3 PL.length (PL.map ivn)).p w6 v8 := (Ty.sl 3 PL.length (PL.map ivn)).below hv8 hb
  refine cond_ty hF rfl (fun hlt2 => ?_) (fun hge2 => ?_)
  · have hlt2 : j < PL.length := by have := of_decide_eq_true hlt2; omega
    have hi := hPd j hlt2
    have hfs := fold_snoc PL hlt2 L x n
    have hd1 := ivn_drop hlt2
    have hFl : ((PL.take j).foldl (fun L i => tputAt L i x n) L).length = L.length := by rw [foldAt_len]
    generalize (PL.take j).foldl (fun L i => tputAt L i x n) L = R at *
    generalize PL.getD j 0 = i at *
    obtain ⟨g, off, cap, eu, eS, hsl⟩ : ∃ g off cap, s16 = .slice (some ⟨g, off, none⟩) L.length cap ∧ S = [g] ∧ SegL w6 105 65 g off L.length cap (flatC R) := by
      rcases hsg.cases with ⟨_, h0, _⟩ | h
      · omega
      · exact h
    have hgw : w1.heap.size ≤ g := by
      have := hS g (by rw [eS]; simp)
      omega
    have hcell := cell_at hsl (i := i) (by omega)
    have h7 : (Ty.at_ 52 [.int .u64 (seed : Int), .slice (some ⟨g, off, none⟩) L.length cap]).p w6 (.pointer (some ⟨g7, 0, none⟩)) := by rw [← eu]; exact blk_at hb7
    repeat (first | with_reducible refine wp_seq ?_ | with_reducible refine nThen ?_ | with_reducible refine nBlk ?_ | with_reducible refine wp_skip ?_ | with_reducible refine wp_block ?_ | with_reducible refine wp_exit ?_ | with_reducible refine xThen ?_ | with_reducible refine xHere ?_ | with_reducible refine xFar (by decide) ?_ | with_reducible refine wp_ret ?_ | with_reducible refine rThen ?_ | with_reducible refine rBlk ?_)
    refine' region_ty 18 mixed (by kernel_rfl) hF ?_ ?_
    rotate_left
    · simp only [List.take_succ_cons, List.take_zero]
      repeat (first
          | exact Line.nil
          | (refine' Line.cons rfl (.no rfl rfl rfl rfl rfl rfl) ?_; rotate_left)
          | ((first | refine' Line.cons rfl (.run rfl rfl ?_) ?_ | refine' Line.cons rfl (.yes rfl rfl rfl rfl ?_) ?_)
             any_goals (first | exact cMove rfl rfl | exact cAssign rfl rfl | exact cNot rfl rfl | exact cFldL83 rfl (.l rfl h7) | exact cRowOf83 rfl (.t rfl) | exact cIndexEx (k := i) (sz := 65) rfl rfl rfl Try.underlying50 info49 hi | exact cIndexS (k := j) (sz := 1) rfl (.l rfl hv8) rfl Try.underlying66 sizeI hlt2 (by rw [List.length_map]; omega) | exact cLoad1 (u := ivn i) rfl (Has.c (.t rfl) (fun W v h => by rw [Nat.mul_one, hd1] at h; exact h)) (pts_at _ _) Try.underlying3 rfl | exact cLoadCl49 rfl (.l rfl hcell) | exact cLoadSum rfl (.l rfl hp4) Try.underlying61 sizeR | exact cCall3 rfl rfl rfl rfl (putcell_ty _ _ _) | exact cPickT rfl rfl rfl | exact cPickF rfl rfl rfl | exact cLss rfl rfl rfl | exact cLeq rfl rfl rfl | exact cGtr rfl rfl rfl | exact cGeq rfl rfl rfl | exact cEql rfl rfl rfl | exact cNeq rfl rfl rfl | exact cExtract rfl rfl rfl)
             rotate_left))
    intro a w7 hF hb hN
    have hBs := hB.size
    replace hB := hB.trans (hb.mono hB.size)
    simp only [List.take_succ_cons, List.take_zero, List.drop_succ_cons, List.drop_zero] at hF hN ⊢
    dsimp only [ext, Option.getD] at hF
    replace hb7 := hb7.below hb
    replace hsl := hsl.below hb
    replace hp4 : (Ty.at_ 61 x.enc).p w7 p4 := (Ty.at_ 61 x.enc).below hp4 hb
    replace hv8 : (Ty.sl 3 PL.length (PL.map ivn)).p w7 v8 := (Ty.sl 3 PL.length (PL.map ivn)).below hv8 hb
    have hn7 := segl_far hsl hb7 (by decide)
    obtain ⟨csb, hbl⟩ : ∃ cs, Blk w7 g 105 cs := by
      obtain ⟨_, _, _, cs, h, _⟩ := hsl
      exact ⟨cs, h⟩
    refine tlStoreAt (Δ := [(2, Ty.ex (.int .i64 n)), (4, Ty.ex p4), (6, Ty.ex (.pointer (some ⟨g6, 0, none⟩))), (7, Ty.ex (.pointer (some ⟨g7, 0, none⟩))), (8, Ty.ex v8), (9, Ty.ex (.int .i64 (j : Int)))]) (k := i * 65) hF rfl rfl rfl rfl rfl hsl (by rw [Cl.size]; omega) (by rw [Cl.size]; exact info49) (Cl.one _) (hF.keep [2, 4, 6, 7, 8, 9]) rfl ?_
    intro w8 hF hsl hk8
    refine wpList_nil ?_
    replace hB := below_own hB hk8 (by intro y hy; simp only [List.mem_singleton] at hy; omega)
    replace hb7 := hb7.keeps hk8 (by simpa using hn7)
    replace hp4 : (Ty.at_ 61 x.enc).p w8 p4 := (Ty.at_ 61 x.enc).far hp4 hk8 hbl rfl
    replace hv8 : (Ty.sl 3 PL.length (PL.map ivn)).p w8 v8 := (Ty.sl 3 PL.length (PL.map ivn)).far hv8 hk8 hbl rfl
    rw [show ((R.getD i default).put x n).a.toList = ((R.getD i default).put x n).enc from rfl, over_flatC _ _ (by omega)] at hsl
    rw [show R.set i ((R.getD i default).put x n) = tputAt R i x n from rfl, ← hfs] at hsl
    replace hsg := hsl.seg
    rw [← eu, ← eS] at hsg
    repeat (first | with_reducible refine wp_seq ?_ | with_reducible refine nThen ?_ | with_reducible refine nBlk ?_ | with_reducible refine wp_skip ?_ | with_reducible refine wp_block ?_ | with_reducible refine wp_exit ?_ | with_reducible refine xThen ?_ | with_reducible refine xHere ?_ | with_reducible refine xFar (by decide) ?_ | with_reducible refine wp_ret ?_ | with_reducible refine rThen ?_ | with_reducible refine rBlk ?_)
    refine' reg_all hF ?_ mixed (by kernel_rfl) ?_
    rotate_left
    · repeat (first
          | exact Line.nil
          | (refine' Line.cons rfl (.no rfl rfl rfl rfl rfl rfl) ?_; rotate_left)
          | ((first | refine' Line.cons rfl (.run rfl rfl ?_) ?_ | refine' Line.cons rfl (.yes rfl rfl rfl rfl ?_) ?_)
             any_goals (first | exact cMove rfl rfl | exact cAssign rfl rfl | exact cNot rfl rfl | exact cAdd (r := ((j + 1 : Nat) : Int)) rfl rfl rfl (by omega) | exact cPickT rfl rfl rfl | exact cPickF rfl rfl rfl | exact cLss rfl rfl rfl | exact cLeq rfl rfl rfl | exact cGtr rfl rfl rfl | exact cGeq rfl rfl rfl | exact cEql rfl rfl rfl | exact cNeq rfl rfl rfl | exact cExtract rfl rfl rfl)
             rotate_left))
    intro a w9 hF hb hN
    have hBs := hB.size
    replace hB := hB.trans (hb.mono hB.size)
    dsimp only [ext, Option.getD] at hF
    repeat (first | with_reducible refine wp_seq ?_ | with_reducible refine nThen ?_ | with_reducible refine nBlk ?_ | with_reducible refine wp_skip ?_ | with_reducible refine wp_block ?_ | with_reducible refine wp_exit ?_ | with_reducible refine xThen ?_ | with_reducible refine xHere ?_ | with_reducible refine xFar (by decide) ?_ | with_reducible refine wp_ret ?_ | with_reducible refine rThen ?_ | with_reducible refine rBlk ?_)
    exact ⟨m - 1, by omega, j + 1, by omega, hF.keep [2, 4, 6, 7, 8, 9], hB, hb7.below hb, hsg.below hb, (Ty.at_ 61 x.enc).below hp4 hb, (Ty.sl 3 PL.length (PL.map ivn)).below hv8 hb⟩
  have hge2 : ¬ j < PL.length := by have := of_decide_eq_false hge2; omega
  obtain rfl : j = PL.length := by omega
  rw [List.take_length, ← hput] at hsg
  have h7 : (Ty.at_ 52 [.int .u64 (seed : Int), s16]).p w6 (.pointer (some ⟨g7, 0, none⟩)) := blk_at hb7
  replace hb6 : Blk w6 g6 52 #[.int .u64 0, .slice none 0 0] := hb6.below hB
  replace hB := hB0.trans (hB.mono hw1)
  repeat (first | with_reducible refine wp_seq ?_ | with_reducible refine nThen ?_ | with_reducible refine nBlk ?_ | with_reducible refine wp_skip ?_ | with_reducible refine wp_block ?_ | with_reducible refine wp_exit ?_ | with_reducible refine xThen ?_ | with_reducible refine xHere ?_ | with_reducible refine xFar (by decide) ?_ | with_reducible refine wp_ret ?_ | with_reducible refine rThen ?_ | with_reducible refine rBlk ?_)
  refine wp_region_lit ?_
  refine' tlOp hF rfl rfl rfl ?_ ?_
  rotate_left
  · first | exact cLoadT83 rfl (.l rfl h7) | exact cMove rfl rfl | exact cAssign rfl rfl | exact cPickT rfl rfl rfl | exact cPickF rfl rfl rfl | exact cNot rfl rfl | exact cLss rfl rfl rfl | exact cLeq rfl rfl rfl | exact cGtr rfl rfl rfl | exact cGeq rfl rfl rfl | exact cEql rfl rfl rfl | exact cNeq rfl rfl rfl | exact cExtract rfl rfl rfl
  intro a w7 hF hb
  have hBs := hB.size
  replace hB := hB.trans (hb.mono hB.size)
  try (refine wpList_nil ?_)
  repeat (first | with_reducible refine wp_seq ?_ | with_reducible refine nThen ?_ | with_reducible refine nBlk ?_ | with_reducible refine wp_skip ?_ | with_reducible refine wp_block ?_ | with_reducible refine wp_exit ?_ | with_reducible refine xThen ?_ | with_reducible refine xHere ?_ | with_reducible refine xFar (by decide) ?_ | with_reducible refine wp_ret ?_ | with_reducible refine rThen ?_ | with_reducible refine rBlk ?_)
  replace hb6 := hb6.below hb
  replace hsg := hsg.below hb
  refine tlStoreV (Δ := [(6, Ty.ex (.pointer (some ⟨g6, 0, none⟩)))]) hF rfl rfl rfl rfl (hF.getEx (s := 48) rfl) hb6 rfl sizeT83 (sl_one hsg.sl _) (hF.keep [6]) rfl ?_
  intro w8 hF hb6' hkx
  refine wpList_nil ?_
  replace hB := below_own hB hkx (by intro y hy; simp only [List.mem_singleton] at hy; omega)
  replace hsg := hsg.keeps hkx (seg_far hsg hb6 (by decide))
  repeat (first | with_reducible refine wp_seq ?_ | with_reducible refine nThen ?_ | with_reducible refine nBlk ?_ | with_reducible refine wp_skip ?_ | with_reducible refine wp_block ?_ | with_reducible refine wp_exit ?_ | with_reducible refine xThen ?_ | with_reducible refine xHere ?_ | with_reducible refine xFar (by decide) ?_ | with_reducible refine wp_ret ?_ | with_reducible refine rThen ?_ | with_reducible refine rBlk ?_)
  refine retCell hF rfl rfl hb6' Try.underlying52 rfl sizeT83 ?_
  refine ⟨_, rfl, ⟨s16, rfl, S, ?_, fun y hy => Nat.le_trans hw1 (hS y hy)⟩, hB⟩
  rw [tput_len]
  exact hsg
end Go.Proofs.Ytmlbkcpmgcjblaa

/- Layer 15 by types: the document's Minus. -/
namespace Go.Proofs.Ytmlbkcpmgcjblaa
open Go.RowKit

theorem tminus_snoc {A B : List Cl} (h : A.length = B.length) {i : Nat} (hi : i < A.length) : (tminus A B).take (i + 1) = (tminus A B).take i ++ [(A.getD i default).minus (B.getD i default)] := by
  rw [List.take_succ_eq_append_getElem (by rw [tminus_len h]; exact hi)]
  congr 2
  have := tminus_get h hi
  simpa [List.getD, List.getElem?_eq_getElem (show i < (tminus A B).length by rw [tminus_len h]; exact hi)] using this
set_option maxRecDepth 100000 in
set_option maxHeartbeats 2000000 in
theorem r13minus_ty (sa sb : Nat) (A B : List Cl) : FnR2 Try.prog 43 (Ty.tab 105 sa A) (Ty.tab 105 sb B) (fun w => Ty.tabE w 105 (minS sa sb A B) (minL sa sb A B) (minE sa sb A B)) := by
  refine ⟨fun args w => by kernel_rfl, fun w v u ⟨s, hv, hs⟩ ⟨s2, hu, hs2⟩ => ?_⟩
  subst hv hu
  have hG := goodCells_ty (A.length : Int)
  refine enter_ty 57 [Ty.ex (.agg #[.int .u64 (sa : Int), s]), Ty.ex (.agg #[.int .u64 (sb : Int), s2])] Try.func43 rfl (by kernel_rfl) ⟨rfl, rfl, trivial⟩ fun a hF => ?_
  have hB := Below.refl w.heap.size w
  let TA := Ty.cls 105 A
  let TB := Ty.cls 105 B
  repeat (first | with_reducible refine wp_seq ?_ | with_reducible refine nThen ?_ | with_reducible refine nBlk ?_ | with_reducible refine wp_skip ?_ | with_reducible refine wp_block ?_ | with_reducible refine wp_exit ?_ | with_reducible refine xThen ?_ | with_reducible refine xHere ?_ | with_reducible refine xFar (by decide) ?_ | with_reducible refine wp_ret ?_ | with_reducible refine rThen ?_ | with_reducible refine rBlk ?_)
  refine' reg_all hF ?_ mixed (by kernel_rfl) ?_
  rotate_left
  · repeat (first
        | exact Line.nil
        | (refine' Line.cons rfl (.no rfl rfl rfl rfl rfl rfl) ?_; rotate_left)
        | (refine' Line.cons rfl (.new rfl rfl (run_alloc_i infoT83) rfl) ?_; rotate_left)
        | ((first | refine' Line.cons rfl (.run rfl rfl ?_) ?_ | refine' Line.cons rfl (.yes rfl rfl rfl rfl ?_) ?_)
           any_goals (first | exact cMove rfl rfl | exact cAssign rfl rfl | exact cNot rfl rfl | exact cBoxTab rfl rfl | exact cPickT rfl rfl rfl | exact cPickF rfl rfl rfl | exact cLss rfl rfl rfl | exact cLeq rfl rfl rfl | exact cGtr rfl rfl rfl | exact cGeq rfl rfl rfl | exact cEql rfl rfl rfl | exact cNeq rfl rfl rfl | exact cExtract rfl rfl rfl)
           rotate_left))
  intro a w1 hF hb hN
  have hBs := hB.size
  replace hB := hB.trans (hb.mono hB.size)
  dsimp only [ext, Option.getD] at hF
  repeat (first | with_reducible refine wp_seq ?_ | with_reducible refine nThen ?_ | with_reducible refine nBlk ?_ | with_reducible refine wp_skip ?_ | with_reducible refine wp_block ?_ | with_reducible refine wp_exit ?_ | with_reducible refine xThen ?_ | with_reducible refine xHere ?_ | with_reducible refine xFar (by decide) ?_ | with_reducible refine wp_ret ?_ | with_reducible refine rThen ?_ | with_reducible refine rBlk ?_)
  obtain ⟨z, ⟨g4, rfl, hg4, hb4⟩, hF⟩ := hF.open (s := 4) rfl
  have hs1 := TA.below hs hB
  have hs21 := TB.below hs2 hB
  repeat (first | with_reducible refine wp_seq ?_ | with_reducible refine nThen ?_ | with_reducible refine nBlk ?_ | with_reducible refine wp_skip ?_ | with_reducible refine wp_block ?_ | with_reducible refine wp_exit ?_ | with_reducible refine xThen ?_ | with_reducible refine xHere ?_ | with_reducible refine xFar (by decide) ?_ | with_reducible refine wp_ret ?_ | with_reducible refine rThen ?_ | with_reducible refine rBlk ?_)
  refine wp_mono (Q := fun e a w' => e = .normal ∧ Fr 57 [(2, Ty.at_ 52 [.int .u64 (sa : Int), s]), (3, Ty.at_ 52 [.int .u64 (sb : Int), s2]), (4, Ty.ex (.pointer (some ⟨g4, 0, none⟩))), (28, Ty.ex (.bool (!minOk sa sb A B)))] a w' ∧ Below w.heap.size w w' ∧ Blk w' g4 52 zeroT) ?_ ?_
  · unfold minOk
    by_cases h1 : goodN (A.length : Int) = true
    · rw [h1] at hG
      by_cases h2 : A.length = B.length
      · have e2 : (!decide ((A.length : Int) = (B.length : Int))) = false := by rw [decide_eq_true (by omega)]; rfl
        have e3 : (!decide ((sa : Int) = (sb : Int))) = !(goodN (A.length : Int) && (decide (A.length = B.length) && decide (sa = sb))) := by
          rw [h1, decide_eq_true h2, Bool.true_and, Bool.true_and, show decide ((sa : Int) = (sb : Int)) = decide (sa = sb) from decide_eq_decide.2 (by omega)]
        refine' reg_all hF ?_ mixed (by kernel_rfl) ?_
        rotate_left
        · repeat (first
              | exact Line.nil
              | (refine' Line.cons rfl (.no rfl rfl rfl rfl rfl rfl) ?_; rotate_left)
              | ((first | refine' Line.cons rfl (.run rfl rfl ?_) ?_ | refine' Line.cons rfl (.yes rfl rfl rfl rfl ?_) ?_)
                 any_goals (first | exact cMove rfl rfl | exact cAssign rfl rfl | exact cNot rfl rfl | exact cCall1 rfl rfl hG | exact cFldL83 rfl (.t rfl) | exact cRowOf83 rfl (.t rfl) | exact cLenH rfl (.l rfl hs1) (Ty.sl_isSl _ _ _) Try.underlying50 | exact cLenH rfl (.l rfl hs21) (Ty.sl_isSl _ _ _) Try.underlying50 | exact cFldS83 rfl (.t rfl) | exact cLoadU64 rfl (.t rfl) | exact OpOk.b (cNeq rfl rfl rfl) e2 | exact OpOk.b (cNeq rfl rfl rfl) e3 | exact cPickT rfl rfl rfl | exact cPickF rfl rfl rfl | exact cLss rfl rfl rfl | exact cLeq rfl rfl rfl | exact cGtr rfl rfl rfl | exact cGeq rfl rfl rfl | exact cEql rfl rfl rfl | exact cNeq rfl rfl rfl | exact cExtract rfl rfl rfl)
                 rotate_left))
        intro a w2 hF hb hN
        have hBs := hB.size
        replace hB := hB.trans (hb.mono hB.size)
        dsimp only [ext, Option.getD] at hF
        repeat (first | with_reducible refine wp_seq ?_ | with_reducible refine nThen ?_ | with_reducible refine nBlk ?_ | with_reducible refine wp_skip ?_ | with_reducible refine wp_block ?_ | with_reducible refine wp_exit ?_ | with_reducible refine xThen ?_ | with_reducible refine xHere ?_ | with_reducible refine xFar (by decide) ?_ | with_reducible refine wp_ret ?_ | with_reducible refine rThen ?_ | with_reducible refine rBlk ?_)
        exact ⟨rfl, hF.keep [2, 3, 4, 28], hB, hb4.below hb⟩
      · have e2 : (!decide ((A.length : Int) = (B.length : Int))) = true := by rw [decide_eq_false (by omega)]; rfl
        have e3 : (!(goodN (A.length : Int) && (decide (A.length = B.length) && decide (sa = sb)))) = true := by rw [decide_eq_false h2, Bool.false_and, Bool.and_false]; rfl
        rw [e3]
        refine' reg_all hF ?_ mixed (by kernel_rfl) ?_
        rotate_left
        · repeat (first
              | exact Line.nil
              | (refine' Line.cons rfl (.no rfl rfl rfl rfl rfl rfl) ?_; rotate_left)
              | ((first | refine' Line.cons rfl (.run rfl rfl ?_) ?_ | refine' Line.cons rfl (.yes rfl rfl rfl rfl ?_) ?_)
                 any_goals (first | exact cMove rfl rfl | exact cAssign rfl rfl | exact cNot rfl rfl | exact cCall1 rfl rfl hG | exact cFldL83 rfl (.t rfl) | exact cRowOf83 rfl (.t rfl) | exact cLenH rfl (.l rfl hs1) (Ty.sl_isSl _ _ _) Try.underlying50 | exact cLenH rfl (.l rfl hs21) (Ty.sl_isSl _ _ _) Try.underlying50 | exact cFldS83 rfl (.t rfl) | exact cLoadU64 rfl (.t rfl) | exact OpOk.b (cNeq rfl rfl rfl) e2 | exact cPickT rfl rfl rfl | exact cPickF rfl rfl rfl | exact cLss rfl rfl rfl | exact cLeq rfl rfl rfl | exact cGtr rfl rfl rfl | exact cGeq rfl rfl rfl | exact cEql rfl rfl rfl | exact cNeq rfl rfl rfl | exact cExtract rfl rfl rfl)
                 rotate_left))
        intro a w2 hF hb hN
        have hBs := hB.size
        replace hB := hB.trans (hb.mono hB.size)
        dsimp only [ext, Option.getD] at hF
        repeat (first | with_reducible refine wp_seq ?_ | with_reducible refine nThen ?_ | with_reducible refine nBlk ?_ | with_reducible refine wp_skip ?_ | with_reducible refine wp_block ?_ | with_reducible refine wp_exit ?_ | with_reducible refine xThen ?_ | with_reducible refine xHere ?_ | with_reducible refine xFar (by decide) ?_ | with_reducible refine wp_ret ?_ | with_reducible refine rThen ?_ | with_reducible refine rBlk ?_)
        exact ⟨rfl, hF.keep [2, 3, 4, 28], hB, hb4.below hb⟩
    · have h1 : goodN (A.length : Int) = false := by simpa using h1
      rw [h1] at hG ⊢
      refine' reg_all hF ?_ mixed (by kernel_rfl) ?_
      rotate_left
      · repeat (first
            | exact Line.nil
            | (refine' Line.cons rfl (.no rfl rfl rfl rfl rfl rfl) ?_; rotate_left)
            | ((first | refine' Line.cons rfl (.run rfl rfl ?_) ?_ | refine' Line.cons rfl (.yes rfl rfl rfl rfl ?_) ?_)
               any_goals (first | exact cMove rfl rfl | exact cAssign rfl rfl | exact cNot rfl rfl | exact cCall1 rfl rfl hG | exact cFldL83 rfl (.t rfl) | exact cRowOf83 rfl (.t rfl) | exact cLenH rfl (.l rfl hs1) (Ty.sl_isSl _ _ _) Try.underlying50 | exact cLenH rfl (.l rfl hs21) (Ty.sl_isSl _ _ _) Try.underlying50 | exact cFldS83 rfl (.t rfl) | exact cLoadU64 rfl (.t rfl) | exact cPickT rfl rfl rfl | exact cPickF rfl rfl rfl | exact cLss rfl rfl rfl | exact cLeq rfl rfl rfl | exact cGtr rfl rfl rfl | exact cGeq rfl rfl rfl | exact cEql rfl rfl rfl | exact cNeq rfl rfl rfl | exact cExtract rfl rfl rfl)
               rotate_left))
      intro a w2 hF hb hN
      have hBs := hB.size
      replace hB := hB.trans (hb.mono hB.size)
      dsimp only [ext, Option.getD] at hF
      repeat (first | with_reducible refine wp_seq ?_ | with_reducible refine nThen ?_ | with_reducible refine nBlk ?_ | with_reducible refine wp_skip ?_ | with_reducible refine wp_block ?_ | with_reducible refine wp_exit ?_ | with_reducible refine xThen ?_ | with_reducible refine xHere ?_ | with_reducible refine xFar (by decide) ?_ | with_reducible refine wp_ret ?_ | with_reducible refine rThen ?_ | with_reducible refine rBlk ?_)
      exact ⟨rfl, hF.keep [2, 3, 4, 28], hB, hb4.below hb⟩
  clear hF hB hb4 hs1 hs21
  rintro e a w2 ⟨rfl, hF, hB, hb4⟩
  repeat (first | with_reducible refine wp_seq ?_ | with_reducible refine nThen ?_ | with_reducible refine nBlk ?_ | with_reducible refine wp_skip ?_ | with_reducible refine wp_block ?_ | with_reducible refine wp_exit ?_ | with_reducible refine xThen ?_ | with_reducible refine xHere ?_ | with_reducible refine xFar (by decide) ?_ | with_reducible refine wp_ret ?_ | with_reducible refine rThen ?_ | with_reducible refine rBlk ?_)
  by_cases hok : minOk sa sb A B = true
  rotate_left
  · have hok : minOk sa sb A B = false := by simpa using hok
    have e1 : minS sa sb A B = 0 := by unfold minS; rw [hok]; rfl
    have e2 : minL sa sb A B = [] := by unfold minL; rw [hok]; rfl
    have e3 : minE sa sb A B = .int .i64 1 := by unfold minE; rw [hok]; rfl
    rw [hok] at hF
    rw [e1, e2, e3]
    refine cond_t hF rfl ?_
    repeat (first | with_reducible refine wp_seq ?_ | with_reducible refine nThen ?_ | with_reducible refine nBlk ?_ | with_reducible refine wp_skip ?_ | with_reducible refine wp_block ?_ | with_reducible refine wp_exit ?_ | with_reducible refine xThen ?_ | with_reducible refine xHere ?_ | with_reducible refine xFar (by decide) ?_ | with_reducible refine wp_ret ?_ | with_reducible refine rThen ?_ | with_reducible refine rBlk ?_)
    refine' region_ty 1 mixed (by kernel_rfl) hF ?_ ?_
    rotate_left
    · simp only [List.take_succ_cons, List.take_zero]
      repeat (first
          | exact Line.nil
          | (refine' Line.cons rfl (.no rfl rfl rfl rfl rfl rfl) ?_; rotate_left)
          | ((first | refine' Line.cons rfl (.run rfl rfl ?_) ?_ | refine' Line.cons rfl (.yes rfl rfl rfl rfl ?_) ?_)
             any_goals (first | exact cMove rfl rfl | exact cAssign rfl rfl | exact cNot rfl rfl | exact cBuildE rfl (fun w => buildT083 w) | exact cPickT rfl rfl rfl | exact cPickF rfl rfl rfl | exact cLss rfl rfl rfl | exact cLeq rfl rfl rfl | exact cGtr rfl rfl rfl | exact cGeq rfl rfl rfl | exact cEql rfl rfl rfl | exact cNeq rfl rfl rfl | exact cExtract rfl rfl rfl)
             rotate_left))
    intro a w3 hF hb hN
    have hBs := hB.size
    replace hB := hB.trans (hb.mono hB.size)
    simp only [List.take_succ_cons, List.take_zero, List.drop_succ_cons, List.drop_zero] at hF hN ⊢
    dsimp only [ext, Option.getD] at hF
    replace hb4 := hb4.below hb
    refine tlStoreV (Δ := [(4, Ty.ex (.pointer (some ⟨g4, 0, none⟩)))]) hF rfl rfl rfl rfl (hF.getEx (s := 29) rfl) hb4 rfl sizeT83 (tabCells 0 _ _ _) (hF.keep [4]) rfl ?_
    intro w4 hF hb4 hkx
    replace hB := below_own hB hkx (by intro y hy; simp only [List.mem_singleton] at hy; omega)
    refine' tlOp hF rfl rfl rfl ?_ ?_
    rotate_left
    · first | exact cMove rfl rfl | exact cAssign rfl rfl | exact cPickT rfl rfl rfl | exact cPickF rfl rfl rfl | exact cNot rfl rfl | exact cLss rfl rfl rfl | exact cLeq rfl rfl rfl | exact cGtr rfl rfl rfl | exact cGeq rfl rfl rfl | exact cEql rfl rfl rfl | exact cNeq rfl rfl rfl | exact cExtract rfl rfl rfl
    intro a w5 hF hb
    have hBs := hB.size
    replace hB := hB.trans (hb.mono hB.size)
    try (refine wpList_nil ?_)
    repeat (first | with_reducible refine wp_seq ?_ | with_reducible refine nThen ?_ | with_reducible refine nBlk ?_ | with_reducible refine wp_skip ?_ | with_reducible refine wp_block ?_ | with_reducible refine wp_exit ?_ | with_reducible refine xThen ?_ | with_reducible refine xHere ?_ | with_reducible refine xFar (by decide) ?_ | with_reducible refine wp_ret ?_ | with_reducible refine rThen ?_ | with_reducible refine rBlk ?_)
    replace hb4 := hb4.below hb
    refine retCell2 hF rfl rfl rfl hb4 Try.underlying52 rfl sizeT83 ?_
    exact ⟨_, rfl, ⟨_, rfl, _, rfl, [], Seg.nil _ _ _, by simp⟩, hB⟩
  have e1 : minS sa sb A B = sa := by unfold minS; rw [hok]; rfl
  have e2 : minL sa sb A B = tminus A B := by unfold minL; rw [hok]; rfl
  have e3 : minE sa sb A B = .int .i64 0 := by unfold minE; rw [hok]; rfl
  rw [hok] at hF
  rw [e1, e2, e3]
  clear e1 e2 e3
  unfold minOk at hok
  simp only [Bool.and_eq_true, decide_eq_true_eq] at hok
  obtain ⟨hgd, hlen, hse⟩ := hok
  subst hse
  obtain ⟨N, hN, hN1, hN2⟩ := goodN_rng hgd
  have hN : A.length = N := by omega
  refine cond_f hF rfl ?_
  repeat (first | with_reducible refine wp_seq ?_ | with_reducible refine nThen ?_ | with_reducible refine nBlk ?_ | with_reducible refine wp_skip ?_ | with_reducible refine wp_block ?_ | with_reducible refine wp_exit ?_ | with_reducible refine xThen ?_ | with_reducible refine xHere ?_ | with_reducible refine xFar (by decide) ?_ | with_reducible refine wp_ret ?_ | with_reducible refine rThen ?_ | with_reducible refine rBlk ?_)
  obtain ⟨p2, hp2, hF⟩ := hF.open (s := 2) rfl
  obtain ⟨p3, hp3, hF⟩ := hF.open (s := 3) rfl
  have hsa := TA.below hs hB
  have hsb := TB.below hs2 hB
  have hw2 := hB.size
  have hlt4 := hb4.lt
  have hB0 := hB
  replace hB := Below.refl w2.heap.size w2
  clear hs hs2 hG
  refine' region_ty 4 mixed (by kernel_rfl) hF ?_ ?_
  rotate_left
  · simp only [List.take_succ_cons, List.take_zero]
    repeat (first
        | exact Line.nil
        | (refine' Line.cons rfl (.no rfl rfl rfl rfl rfl rfl) ?_; rotate_left)
        | (refine' Line.cons rfl (.new rfl rfl (run_alloc_i infoT83) rfl) ?_; rotate_left)
        | ((first | refine' Line.cons rfl (.run rfl rfl ?_) ?_ | refine' Line.cons rfl (.yes rfl rfl rfl rfl ?_) ?_)
           any_goals (first | exact cMove rfl rfl | exact cAssign rfl rfl | exact cNot rfl rfl | exact cFldS83 rfl (.l rfl hp2) | exact cLoadU64 rfl (.t rfl) | exact cBuildC1 rfl rfl (fun w => buildTs83 _ w) | exact cPickT rfl rfl rfl | exact cPickF rfl rfl rfl | exact cLss rfl rfl rfl | exact cLeq rfl rfl rfl | exact cGtr rfl rfl rfl | exact cGeq rfl rfl rfl | exact cEql rfl rfl rfl | exact cNeq rfl rfl rfl | exact cExtract rfl rfl rfl)
           rotate_left))
  intro a w3 hF hb hN
  have hBs := hB.size
  replace hB := hB.trans (hb.mono hB.size)
  simp only [List.take_succ_cons, List.take_zero, List.drop_succ_cons, List.drop_zero] at hF hN ⊢
  dsimp only [ext, Option.getD] at hF
  obtain ⟨z, ⟨g6, rfl, hg6, hb6⟩, hF⟩ := hF.open (s := 6) rfl
  have hg6 : w2.heap.size ≤ g6 := hg6
  refine tlStoreV (Δ := [(2, Ty.ex p2), (3, Ty.ex p3), (4, Ty.ex (.pointer (some ⟨g4, 0, none⟩))), (6, Ty.ex (.pointer (some ⟨g6, 0, none⟩)))]) hF rfl rfl rfl rfl (hF.getEx (s := 32) rfl) hb6 rfl sizeT83 (tabCells sa _ _ _) (hF.keep [2, 3, 4, 6]) rfl ?_
  intro w4 hF hb6' hkx
  refine wpList_nil ?_
  replace hB := below_own hB hkx (by intro y hy; simp only [List.mem_singleton] at hy; omega)
  replace hb6 : Blk w4 g6 52 #[.int .u64 (sa : Int), .slice none 0 0] := hb6'
  clear hb6' hkx
  repeat (first | with_reducible refine wp_seq ?_ | with_reducible refine nThen ?_ | with_reducible refine nBlk ?_ | with_reducible refine wp_skip ?_ | with_reducible refine wp_block ?_ | with_reducible refine wp_exit ?_ | with_reducible refine xThen ?_ | with_reducible refine xHere ?_ | with_reducible refine xFar (by decide) ?_ | with_reducible refine wp_ret ?_ | with_reducible refine rThen ?_ | with_reducible refine rBlk ?_)
  refine' reg_all hF ?_ mixed (by kernel_rfl) ?_
  rotate_left
  · repeat (first
        | exact Line.nil
        | (refine' Line.cons rfl (.no rfl rfl rfl rfl rfl rfl) ?_; rotate_left)
        | ((first | refine' Line.cons rfl (.run rfl rfl ?_) ?_ | refine' Line.cons rfl (.yes rfl rfl rfl rfl ?_) ?_)
           any_goals (first | exact cMove rfl rfl | exact cAssign rfl rfl | exact cNot rfl rfl | exact cPickT rfl rfl rfl | exact cPickF rfl rfl rfl | exact cLss rfl rfl rfl | exact cLeq rfl rfl rfl | exact cGtr rfl rfl rfl | exact cGeq rfl rfl rfl | exact cEql rfl rfl rfl | exact cNeq rfl rfl rfl | exact cExtract rfl rfl rfl)
           rotate_left))
  intro a w5 hF hb hN
  have hBs := hB.size
  replace hB := hB.trans (hb.mono hB.size)
  dsimp only [ext, Option.getD] at hF
  repeat (first | with_reducible refine wp_seq ?_ | with_reducible refine nThen ?_ | with_reducible refine nBlk ?_ | with_reducible refine wp_skip ?_ | with_reducible refine wp_block ?_ | with_reducible refine wp_exit ?_ | with_reducible refine xThen ?_ | with_reducible refine xHere ?_ | with_reducible refine xFar (by decide) ?_ | with_reducible refine wp_ret ?_ | with_reducible refine rThen ?_ | with_reducible refine rBlk ?_)
  replace hb6 := hb6.below hb
  refine loop_ty (fun m a wr => ∃ (i : Nat) (u : Value) (S : List Nat), i + m = A.length ∧ Fr 57 [(2, Ty.ex p2), (3, Ty.ex p3), (4, Ty.ex (.pointer (some ⟨g4, 0, none⟩))), (6, Ty.ex (.pointer (some ⟨g6, 0, none⟩))), (7, Ty.ex (.int .i64 (i : Int)))] a wr ∧ Below w2.heap.size w2 wr ∧ Blk wr g6 52 #[.int .u64 (sa : Int), u] ∧ Seg wr 105 65 u i (flatC ((tminus A B).take i)) S ∧ ∀ y ∈ S, w2.heap.size ≤ y) A.length ?_ ?_
  · exact ⟨0, _, [], by omega, hF.keep [2, 3, 4, 6, 7], hB, hb6, Seg.nil _ _ _, by simp⟩
  clear hF hB hb6
  rintro m a wr ⟨i, u, S, hi, hF, hB, hb6, hseg, hS⟩
  have hpa := (Ty.at_ 52 [.int .u64 (sa : Int), s]).below hp2 hB
  have hsr := TA.below hsa hB
  repeat (first | with_reducible refine wp_seq ?_ | with_reducible refine nThen ?_ | with_reducible refine nBlk ?_ | with_reducible refine wp_skip ?_ | with_reducible refine wp_block ?_ | with_reducible refine wp_exit ?_ | with_reducible refine xThen ?_ | with_reducible refine xHere ?_ | with_reducible refine xFar (by decide) ?_ | with_reducible refine wp_ret ?_ | with_reducible refine rThen ?_ | with_reducible refine rBlk ?_)
  refine' reg_all hF ?_ mixed (by kernel_rfl) ?_
  rotate_left
  · repeat (first
        | exact Line.nil
        | (refine' Line.cons rfl (.no rfl rfl rfl rfl rfl rfl) ?_; rotate_left)
        | ((first | refine' Line.cons rfl (.run rfl rfl ?_) ?_ | refine' Line.cons rfl (.yes rfl rfl rfl rfl ?_) ?_)
           any_goals (first | exact cMove rfl rfl | exact cAssign rfl rfl | exact cNot rfl rfl | exact cFldL83 rfl (.l rfl hpa) | exact cRowOf83 rfl (.t rfl) | exact cLenH rfl (.l rfl hsr) (Ty.sl_isSl _ _ _) Try.underlying50 | exact cPickT rfl rfl rfl | exact cPickF rfl rfl rfl | exact cLss rfl rfl rfl | exact cLeq rfl rfl rfl | exact cGtr rfl rfl rfl | exact cGeq rfl rfl rfl | exact cEql rfl rfl rfl | exact cNeq rfl rfl rfl | exact cExtract rfl rfl rfl)
           rotate_left))
  intro a w6 hF hb hN
  have hBs := hB.size
  replace hB := hB.trans (hb.mono hB.size)
  dsimp only [ext, Option.getD] at hF
  repeat (first | with_reducible refine wp_seq ?_ | with_reducible refine nThen ?_ | with_reducible refine nBlk ?_ | with_reducible refine wp_skip ?_ | with_reducible refine wp_block ?_ | with_reducible refine wp_exit ?_ | with_reducible refine xThen ?_ | with_reducible refine xHere ?_ | with_reducible refine xFar (by decide) ?_ | with_reducible refine wp_ret ?_ | with_reducible refine rThen ?_ | with_reducible refine rBlk ?_)
  replace hb6 := hb6.below hb
  replace hseg := hseg.below hb
  replace hpa := (Ty.at_ 52 [.int .u64 (sa : Int), s]).below hp2 hB
  have hpb := (Ty.at_ 52 [.int .u64 (sa : Int), s2]).below hp3 hB
  replace hsr := TA.below hsa hB
  have hsr2 := TB.below hsb hB
  have h6 : (Ty.at_ 52 [.int .u64 (sa : Int), u]).p w6 (.pointer (some ⟨g6, 0, none⟩)) := blk_at hb6
  refine cond_ty hF rfl (fun hlt => ?_) (fun hge => ?_)
  · have hlt : i < A.length := by have := of_decide_eq_true hlt; omega
    have hsn := tminus_snoc hlen hlt
    have hC := rminus_ty (A.getD i default) (B.getD i default)
    repeat (first | with_reducible refine wp_seq ?_ | with_reducible refine nThen ?_ | with_reducible refine nBlk ?_ | with_reducible refine wp_skip ?_ | with_reducible refine wp_block ?_ | with_reducible refine wp_exit ?_ | with_reducible refine xThen ?_ | with_reducible refine xHere ?_ | with_reducible refine xFar (by decide) ?_ | with_reducible refine wp_ret ?_ | with_reducible refine rThen ?_ | with_reducible refine rBlk ?_)
    refine' region_ty 14 mixed (by kernel_rfl) hF ?_ ?_
    rotate_left
    · simp only [List.take_succ_cons, List.take_zero]
      repeat (first
          | exact Line.nil
          | (refine' Line.cons rfl (.no rfl rfl rfl rfl rfl rfl) ?_; rotate_left)
          | ((first | refine' Line.cons rfl (.run rfl rfl ?_) ?_ | refine' Line.cons rfl (.yes rfl rfl rfl rfl ?_) ?_)
             any_goals (first | exact cMove rfl rfl | exact cAssign rfl rfl | exact cNot rfl rfl | exact cFldL83 rfl (.l rfl hpa) | exact cFldL83 rfl (.l rfl hpb) | exact cFldL83 rfl (.l rfl h6) | exact cRowOf83 rfl (.t rfl) | exact cIndexCl (k := i) rfl (.l rfl hsr) rfl Try.underlying50 info49 hlt | exact cIndexCl (k := i) rfl (.l rfl hsr2) rfl Try.underlying50 info49 (by omega) | exact cLoadCl49 rfl (.t rfl) | exact cCall2 rfl rfl rfl hC | exact cBuildCl1 rfl rfl Try.underlying50 infoC49 | exact cPickT rfl rfl rfl | exact cPickF rfl rfl rfl | exact cLss rfl rfl rfl | exact cLeq rfl rfl rfl | exact cGtr rfl rfl rfl | exact cGeq rfl rfl rfl | exact cEql rfl rfl rfl | exact cNeq rfl rfl rfl | exact cExtract rfl rfl rfl)
             rotate_left))
    intro a w7 hF hb hN
    have hBs := hB.size
    replace hB := hB.trans (hb.mono hB.size)
    simp only [List.take_succ_cons, List.take_zero, List.drop_succ_cons, List.drop_zero] at hF hN ⊢
    dsimp only [ext, Option.getD] at hF
    replace hb6 := hb6.below hb
    replace hseg := hseg.below hb
    have hf6 := seg_far hseg hb6 (by decide)
    refine tlAppend (Δ := [(2, Ty.ex p2), (3, Ty.ex p3), (4, Ty.ex (.pointer (some ⟨g4, 0, none⟩))), (6, Ty.ex (.pointer (some ⟨g6, 0, none⟩))), (7, Ty.ex (.int .i64 (i : Int)))]) (n := i) (m := 1) (news := flatC [(A.getD i default).minus (B.getD i default)]) hF rfl rfl rfl rfl Try.underlying50 infoC49 zero65_cells rfl hseg (.t rfl) sl_news (flatC_len _) flatC_one' (by simp [maxLen]; omega) (by omega) (hF.keep [2, 3, 4, 6, 7]) rfl ?_
    intro a w8 u' S' hF hseg' hk8 hS'
    replace hb6 := hb6.keeps hk8 (fun hm => hf6 g6 hm (by simp))
    have hbS : ∀ y ∈ S', w2.heap.size ≤ y := own_next hB hS hS'
    replace hB := below_own hB hk8 hS
    rw [← flatC_append, ← hsn] at hseg'
    refine' tlOp hF rfl rfl rfl ?_ ?_
    rotate_left
    · first | exact cFieldExE rfl rfl Try.underlying52 rfl size_row83 | exact cMove rfl rfl | exact cAssign rfl rfl | exact cPickT rfl rfl rfl | exact cPickF rfl rfl rfl | exact cNot rfl rfl | exact cLss rfl rfl rfl | exact cLeq rfl rfl rfl | exact cGtr rfl rfl rfl | exact cGeq rfl rfl rfl | exact cEql rfl rfl rfl | exact cNeq rfl rfl rfl | exact cExtract rfl rfl rfl
    intro a w9 hF hb
    have hBs := hB.size
    replace hB := hB.trans (hb.mono hB.size)
    try (refine wpList_nil ?_)
    repeat (first | with_reducible refine wp_seq ?_ | with_reducible refine nThen ?_ | with_reducible refine nBlk ?_ | with_reducible refine wp_skip ?_ | with_reducible refine wp_block ?_ | with_reducible refine wp_exit ?_ | with_reducible refine xThen ?_ | with_reducible refine xHere ?_ | with_reducible refine xFar (by decide) ?_ | with_reducible refine wp_ret ?_ | with_reducible refine rThen ?_ | with_reducible refine rBlk ?_)
    replace hb6 := hb6.below hb
    replace hseg' := hseg'.below hb
    have hcu := sl_cells (seg_isA hseg')
    refine tlStoreF (k := 0 + 1) (Δ := [(2, Ty.ex p2), (3, Ty.ex p3), (4, Ty.ex (.pointer (some ⟨g4, 0, none⟩))), (6, Ty.ex (.pointer (some ⟨g6, 0, none⟩))), (7, Ty.ex (.int .i64 (i : Int)))]) hF rfl rfl rfl rfl (hF.getEx (s := 54) rfl) hb6 (by rw [hcu]; exact Nat.le_refl 2) (by rw [hcu]; exact size_row83) (sl_one1 (seg_isA hseg')) (hF.keep [2, 3, 4, 6, 7]) rfl ?_
    intro w10 hF hb6' hk9
    refine wpList_nil ?_
    replace hseg' := hseg'.keeps hk9 (seg_far hseg' hb6 (by decide))
    replace hB := below_own hB hk9 (by intro y hy; simp only [List.mem_singleton] at hy; omega)
    replace hb6 : Blk w10 g6 52 #[.int .u64 (sa : Int), u'] := by
      rw [Nat.zero_add, splice2 _ _ _ hcu] at hb6'
      exact hb6'
    repeat (first | with_reducible refine wp_seq ?_ | with_reducible refine nThen ?_ | with_reducible refine nBlk ?_ | with_reducible refine wp_skip ?_ | with_reducible refine wp_block ?_ | with_reducible refine wp_exit ?_ | with_reducible refine xThen ?_ | with_reducible refine xHere ?_ | with_reducible refine xFar (by decide) ?_ | with_reducible refine wp_ret ?_ | with_reducible refine rThen ?_ | with_reducible refine rBlk ?_)
    refine' reg_all hF ?_ mixed (by kernel_rfl) ?_
    rotate_left
    · repeat (first
          | exact Line.nil
          | (refine' Line.cons rfl (.no rfl rfl rfl rfl rfl rfl) ?_; rotate_left)
          | ((first | refine' Line.cons rfl (.run rfl rfl ?_) ?_ | refine' Line.cons rfl (.yes rfl rfl rfl rfl ?_) ?_)
             any_goals (first | exact cMove rfl rfl | exact cAssign rfl rfl | exact cNot rfl rfl | exact cAdd (r := ((i + 1 : Nat) : Int)) rfl rfl rfl (by omega) | exact cPickT rfl rfl rfl | exact cPickF rfl rfl rfl | exact cLss rfl rfl rfl | exact cLeq rfl rfl rfl | exact cGtr rfl rfl rfl | exact cGeq rfl rfl rfl | exact cEql rfl rfl rfl | exact cNeq rfl rfl rfl | exact cExtract rfl rfl rfl)
             rotate_left))
    intro a w11 hF hb hN
    have hBs := hB.size
    replace hB := hB.trans (hb.mono hB.size)
    dsimp only [ext, Option.getD] at hF
    repeat (first | with_reducible refine wp_seq ?_ | with_reducible refine nThen ?_ | with_reducible refine nBlk ?_ | with_reducible refine wp_skip ?_ | with_reducible refine wp_block ?_ | with_reducible refine wp_exit ?_ | with_reducible refine xThen ?_ | with_reducible refine xHere ?_ | with_reducible refine xFar (by decide) ?_ | with_reducible refine wp_ret ?_ | with_reducible refine rThen ?_ | with_reducible refine rBlk ?_)
    exact ⟨m - 1, by omega, i + 1, u', S', by omega, hF.keep [2, 3, 4, 6, 7], hB, hb6.below hb, hseg'.below hb, hbS⟩
  have hge : ¬ i < A.length := by have := of_decide_eq_false hge; omega
  obtain rfl : i = A.length := by omega
  rw [List.take_of_length_le (by rw [tminus_len hlen]; exact Nat.le_refl _)] at hseg
  replace hb4 : Blk w6 g4 52 zeroT := hb4.below hB
  replace hB := hB0.trans (hB.mono hw2)
  have hg4 : w.heap.size ≤ g4 := hg4
  repeat (first | with_reducible refine wp_seq ?_ | with_reducible refine nThen ?_ | with_reducible refine nBlk ?_ | with_reducible refine wp_skip ?_ | with_reducible refine wp_block ?_ | with_reducible refine wp_exit ?_ | with_reducible refine xThen ?_ | with_reducible refine xHere ?_ | with_reducible refine xFar (by decide) ?_ | with_reducible refine wp_ret ?_ | with_reducible refine rThen ?_ | with_reducible refine rBlk ?_)
  refine wp_region_lit ?_
  refine' tlOp hF rfl rfl rfl ?_ ?_
  rotate_left
  · first | exact cLoadT83 rfl (.l rfl h6) | exact cMove rfl rfl | exact cAssign rfl rfl | exact cPickT rfl rfl rfl | exact cPickF rfl rfl rfl | exact cNot rfl rfl | exact cLss rfl rfl rfl | exact cLeq rfl rfl rfl | exact cGtr rfl rfl rfl | exact cGeq rfl rfl rfl | exact cEql rfl rfl rfl | exact cNeq rfl rfl rfl | exact cExtract rfl rfl rfl
  intro a w7 hF hb
  have hBs := hB.size
  replace hB := hB.trans (hb.mono hB.size)
  try (refine wpList_nil ?_)
  repeat (first | with_reducible refine wp_seq ?_ | with_reducible refine nThen ?_ | with_reducible refine nBlk ?_ | with_reducible refine wp_skip ?_ | with_reducible refine wp_block ?_ | with_reducible refine wp_exit ?_ | with_reducible refine xThen ?_ | with_reducible refine xHere ?_ | with_reducible refine xFar (by decide) ?_ | with_reducible refine wp_ret ?_ | with_reducible refine rThen ?_ | with_reducible refine rBlk ?_)
  replace hb4 := hb4.below hb
  replace hseg := hseg.below hb
  refine tlStoreV (Δ := [(4, Ty.ex (.pointer (some ⟨g4, 0, none⟩)))]) hF rfl rfl rfl rfl (hF.getEx (s := 56) rfl) hb4 rfl sizeT83 (sl_one hseg.sl _) (hF.keep [4]) rfl ?_
  intro w8 hF hb4' hkx
  replace hB := below_own hB hkx (by intro y hy; simp only [List.mem_singleton] at hy; omega)
  replace hseg := hseg.keeps hkx (seg_far hseg hb4 (by decide))
  refine' tlOp hF rfl rfl rfl ?_ ?_
  rotate_left
  · first | exact cMove rfl rfl | exact cAssign rfl rfl | exact cPickT rfl rfl rfl | exact cPickF rfl rfl rfl | exact cNot rfl rfl | exact cLss rfl rfl rfl | exact cLeq rfl rfl rfl | exact cGtr rfl rfl rfl | exact cGeq rfl rfl rfl | exact cEql rfl rfl rfl | exact cNeq rfl rfl rfl | exact cExtract rfl rfl rfl
  intro a w9 hF hb
  have hBs := hB.size
  replace hB := hB.trans (hb.mono hB.size)
  try (refine wpList_nil ?_)
  repeat (first | with_reducible refine wp_seq ?_ | with_reducible refine nThen ?_ | with_reducible refine nBlk ?_ | with_reducible refine wp_skip ?_ | with_reducible refine wp_block ?_ | with_reducible refine wp_exit ?_ | with_reducible refine xThen ?_ | with_reducible refine xHere ?_ | with_reducible refine xFar (by decide) ?_ | with_reducible refine wp_ret ?_ | with_reducible refine rThen ?_ | with_reducible refine rBlk ?_)
  refine retCell2 hF rfl rfl rfl (hb4'.below hb) Try.underlying52 rfl sizeT83 ?_
  refine ⟨_, rfl, ⟨_, rfl, u, rfl, S, ?_, fun y hy => Nat.le_trans hw2 (hS y hy)⟩, hB⟩
  rw [tminus_len hlen]
  exact hseg.below hb
end Go.Proofs.Ytmlbkcpmgcjblaa
