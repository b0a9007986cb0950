/- Layer 10: the walks of Minus, Both, Either, Add. -/
import Derived.Test.YtmlbkcpmgcjblaaSetI
namespace Go.Proofs.Ytmlbkcpmgcjblaa
open Go.RowKit

theorem sums_own {w w' : World} {v : Value} {e : TypeId} {sz n g : Nat} {xs : List Value} {S : List Nat} (h : Seg w e sz v n xs S) (k : Keeps [g] w w') (hg : g ∉ S) : SlP w' e v n xs := (h.keeps k fun x hx hm => by simp only [List.mem_singleton] at hm; subst hm; exact hg hx).sl
theorem infoSL : (Try.prog.info? 25).map (·.size) = some 1 := by kernel_rfl

abbrev pM (B : List Sm) (x : Sm) : Bool := decide (x ∈ B)
abbrev pB (B : List Sm) (x : Sm) : Bool := !decide (x ∈ B)
set_option maxRecDepth 100000 in
theorem minus1_ret (B : List Sm) (gb : Nat) (vb : Value) (W : World) (hs : srt B) (hBl : B.length ≤ 1000000) (hgb : Blk W gb 25 #[vb]) (hvb : (Ty.sums 34 B).p W vb) (x : Sm) :
    Ret Try.prog 69 (#[.agg (u8s x.l)] ++ #[.pointer (some ⟨gb, 0, none⟩)]) W (Ty.ex (.bool (pM B x))) := by
  have hh := hasI_ty B x hBl hs
  unfold pM
  generalize decide (x ∈ B) = r at *
  refine enter_ty 7 [Ty.ex (.agg (u8s x.l)), Ty.ex (.pointer (some ⟨gb, 0, none⟩))] Try.func69 rfl (by kernel_rfl) ⟨rfl, rfl, trivial⟩ fun a hF => ?_
  have hB := Below.refl W.heap.size W
  repeat (first | with_reducible refine wp_seq ?_ | with_reducible refine nThen ?_ | with_reducible refine nBlk ?_ | with_reducible refine wp_skip ?_ | with_reducible refine wp_block ?_ | with_reducible refine wp_exit ?_ | with_reducible refine xThen ?_ | with_reducible refine xHere ?_ | with_reducible refine xFar (by decide) ?_ | with_reducible refine wp_ret ?_ | with_reducible refine rThen ?_ | with_reducible refine rBlk ?_)
  refine' reg_all hF ?_ mixed (by kernel_rfl) ?_
  rotate_left
  · repeat (first
        | exact Line.nil
        | (refine' Line.cons rfl (.no rfl rfl rfl rfl rfl rfl) ?_; rotate_left)
        | ((first | refine' Line.cons rfl (.run rfl rfl ?_) ?_ | refine' Line.cons rfl (.yes rfl rfl rfl rfl ?_) ?_)
           any_goals (first | exact cMove rfl rfl | exact cAssign rfl rfl | exact cNot rfl rfl | exact cBoxSum rfl rfl | exact cPickT rfl rfl rfl | exact cPickF rfl rfl rfl | exact cLss rfl rfl rfl | exact cLeq rfl rfl rfl | exact cGtr rfl rfl rfl | exact cGeq rfl rfl rfl | exact cEql rfl rfl rfl | exact cNeq rfl rfl rfl | exact cExtract rfl rfl rfl)
           rotate_left))
  intro a w1 hF hb hN
  have hBs := hB.size
  replace hB := hB.trans (hb.mono hB.size)
  dsimp only [ext, Option.getD] at hF
  repeat (first | with_reducible refine wp_seq ?_ | with_reducible refine nThen ?_ | with_reducible refine nBlk ?_ | with_reducible refine wp_skip ?_ | with_reducible refine wp_block ?_ | with_reducible refine wp_exit ?_ | with_reducible refine xThen ?_ | with_reducible refine xHere ?_ | with_reducible refine xFar (by decide) ?_ | with_reducible refine wp_ret ?_ | with_reducible refine rThen ?_ | with_reducible refine rBlk ?_)
  have hab : (Ty.at_ 25 [vb]).p w1 (.pointer (some ⟨gb, 0, none⟩)) := blk_at (hgb.below hB)
  have hvb1 : (Ty.sums 34 B).p w1 vb := (Ty.sums 34 B).below hvb hB
  refine' reg_all hF ?_ mixed (by kernel_rfl) ?_
  rotate_left
  · repeat (first
        | exact Line.nil
        | (refine' Line.cons rfl (.no rfl rfl rfl rfl rfl rfl) ?_; rotate_left)
        | ((first | refine' Line.cons rfl (.run rfl rfl ?_) ?_ | refine' Line.cons rfl (.yes rfl rfl rfl rfl ?_) ?_)
           any_goals (first | exact cMove rfl rfl | exact cAssign rfl rfl | exact cNot rfl rfl | exact cLoadSum rfl (.t rfl) Try.underlying34 sizeS | exact cLoad1 rfl (.l rfl hab) (pts_at _ _) Try.underlying25 rfl | exact cCallH2 rfl (.l rfl hvb1) (.t rfl) hh | exact cPickT rfl rfl rfl | exact cPickF rfl rfl rfl | exact cLss rfl rfl rfl | exact cLeq rfl rfl rfl | exact cGtr rfl rfl rfl | exact cGeq rfl rfl rfl | exact cEql rfl rfl rfl | exact cNeq rfl rfl rfl | exact cExtract rfl rfl rfl)
           rotate_left))
  intro a w2 hF hb hN
  have hBs := hB.size
  replace hB := hB.trans (hb.mono hB.size)
  dsimp only [ext, Option.getD] at hF
  repeat (first | with_reducible refine wp_seq ?_ | with_reducible refine nThen ?_ | with_reducible refine nBlk ?_ | with_reducible refine wp_skip ?_ | with_reducible refine wp_block ?_ | with_reducible refine wp_exit ?_ | with_reducible refine xThen ?_ | with_reducible refine xHere ?_ | with_reducible refine xFar (by decide) ?_ | with_reducible refine wp_ret ?_ | with_reducible refine rThen ?_ | with_reducible refine rBlk ?_)
  refine ret1 hF rfl rfl fun z hz => ?_
  exact ⟨z, rfl, hz, hB⟩

def minusL (A B : List Sm) : List Sm := (setL A).filter fun x => !pM (setL B) x
set_option maxRecDepth 100000 in
set_option maxHeartbeats 1000000 in
theorem minus_ty (A B : List Sm) (hA : A.length ≤ 1000000) (hBl : B.length ≤ 1000000) : FnSeg2 Try.prog 21 (Ty.sums 34 A) (Ty.sums 34 B) 34 32 (minusL A B).length (flat (minusL A B)) := by
  refine ⟨fun args w => by kernel_rfl, fun w v u hv hu => ?_⟩
  have hu' := hu
  obtain ⟨Au, cu, rfl, -⟩ := hu'
  refine enter_ty 11 [Ty.ex v, Ty.ex (.slice Au B.length cu)] Try.func21 rfl (by kernel_rfl) ⟨rfl, rfl, trivial⟩ fun a hF => ?_
  have hB := Below.refl w.heap.size w
  repeat (first | with_reducible refine wp_seq ?_ | with_reducible refine nThen ?_ | with_reducible refine nBlk ?_ | with_reducible refine wp_skip ?_ | with_reducible refine wp_block ?_ | with_reducible refine wp_exit ?_ | with_reducible refine xThen ?_ | with_reducible refine xHere ?_ | with_reducible refine xFar (by decide) ?_ | with_reducible refine wp_ret ?_ | with_reducible refine rThen ?_ | with_reducible refine rBlk ?_)
  refine' reg_all hF ?_ mixed (by kernel_rfl) ?_
  rotate_left
  · repeat (first
        | exact Line.nil
        | (refine' Line.cons rfl (.no rfl rfl rfl rfl rfl rfl) ?_; rotate_left)
        | ((first | refine' Line.cons rfl (.run rfl rfl ?_) ?_ | refine' Line.cons rfl (.yes rfl rfl rfl rfl ?_) ?_)
           any_goals (first | exact cMove rfl rfl | exact cAssign rfl rfl | exact cNot rfl rfl | exact cBoxN rfl rfl | exact cPickT rfl rfl rfl | exact cPickF rfl rfl rfl | exact cLss rfl rfl rfl | exact cLeq rfl rfl rfl | exact cGtr rfl rfl rfl | exact cGeq rfl rfl rfl | exact cEql rfl rfl rfl | exact cNeq rfl rfl rfl | exact cExtract rfl rfl rfl)
           rotate_left))
  intro a w1 hF hb hN
  have hBs := hB.size
  replace hB := hB.trans (hb.mono hB.size)
  dsimp only [ext, Option.getD] at hF
  repeat (first | with_reducible refine wp_seq ?_ | with_reducible refine nThen ?_ | with_reducible refine nBlk ?_ | with_reducible refine wp_skip ?_ | with_reducible refine wp_block ?_ | with_reducible refine wp_exit ?_ | with_reducible refine xThen ?_ | with_reducible refine xHere ?_ | with_reducible refine xFar (by decide) ?_ | with_reducible refine wp_ret ?_ | with_reducible refine rThen ?_ | with_reducible refine rBlk ?_)
  obtain ⟨z, ⟨gb, rfl, hgb, hbb⟩, hF⟩ := hF.open (s := 3) rfl
  have hab := blk_at hbb
  have hbb0 := hbb
  refine' region_ty 2 mixed (by kernel_rfl) hF ?_ ?_
  rotate_left
  · simp only [List.take_succ_cons, List.take_zero]
    repeat (first
        | exact Line.nil
        | (refine' Line.cons rfl (.no rfl rfl rfl rfl rfl rfl) ?_; rotate_left)
        | ((first | refine' Line.cons rfl (.run rfl rfl ?_) ?_ | refine' Line.cons rfl (.yes rfl rfl rfl rfl ?_) ?_)
           any_goals (first | exact cMove rfl rfl | exact cAssign rfl rfl | exact cNot rfl rfl | exact cLoad1 rfl (.l rfl hab) (pts_at _ _) Try.underlying25 rfl | exact cCallS1 rfl (.l rfl ((Ty.sums 34 B).below hu hB)) (of_ty B hBl) | exact cPickT rfl rfl rfl | exact cPickF rfl rfl rfl | exact cLss rfl rfl rfl | exact cLeq rfl rfl rfl | exact cGtr rfl rfl rfl | exact cGeq rfl rfl rfl | exact cEql rfl rfl rfl | exact cNeq rfl rfl rfl | exact cExtract rfl rfl rfl)
           rotate_left))
  intro a w2 hF hb hN
  have hBs := hB.size
  replace hB := hB.trans (hb.mono hB.size)
  simp only [List.take_succ_cons, List.take_zero, List.drop_succ_cons, List.drop_zero] at hF hN ⊢
  dsimp only [ext, Option.getD] at hF
  have hb0 := hb
  obtain ⟨vb, ⟨Sb, hsb, hSb⟩, hF⟩ := hF.open (s := 6) rfl
  obtain ⟨Ab, cb, hvb, -⟩ := hsb.form
  subst hvb
  refine tlStoreV (Δ := [(0, Ty.ex v), (3, Ty.ex (.pointer (some ⟨gb, 0, none⟩)))]) hF rfl rfl rfl rfl (hF.getEx (s := 6) rfl) (hbb.below hb) rfl infoSL (by simp [Value.cells, Value.oneCell']) (hF.keep [0, 3]) rfl ?_
  intro w3 hF hbb hkb
  refine wpList_nil ?_
  repeat (first | with_reducible refine wp_seq ?_ | with_reducible refine nThen ?_ | with_reducible refine nBlk ?_ | with_reducible refine wp_skip ?_ | with_reducible refine wp_block ?_ | with_reducible refine wp_exit ?_ | with_reducible refine xThen ?_ | with_reducible refine xHere ?_ | with_reducible refine xFar (by decide) ?_ | with_reducible refine wp_ret ?_ | with_reducible refine rThen ?_ | with_reducible refine rBlk ?_)
  have hkw : Keeps [] w w3 := (Keeps.of_below (S := []) hB).trans' hkb (fun x hx => by simp only [List.mem_singleton] at hx; subst hx; exact .inr hgb)
  have hvb : (Ty.sums 34 (setL B)).p w3 (.slice Ab (setL B).length cb) := by
    refine (Ty.sums 34 (setL B)).st hsb.sl hkb ?_
    intro b hb _
    simp only [List.mem_singleton] at hb
    subst hb
    exact ⟨_, _, _, hbb0.below hb0, rfl⟩
  have hv3 := (Ty.sums 34 A).below hv hkw.below
  have hB3 := hkw.below.size
  have hB := Below.refl w3.heap.size w3
  refine' region_ty 3 mixed (by kernel_rfl) hF ?_ ?_
  rotate_left
  · simp only [List.take_succ_cons, List.take_zero]
    repeat (first
        | exact Line.nil
        | (refine' Line.cons rfl (.no rfl rfl rfl rfl rfl rfl) ?_; rotate_left)
        | ((first | refine' Line.cons rfl (.run rfl rfl ?_) ?_ | refine' Line.cons rfl (.yes rfl rfl rfl rfl ?_) ?_)
           any_goals (first | exact cMove rfl rfl | exact cAssign rfl rfl | exact cNot rfl rfl | exact cCallS1 rfl (.l rfl hv3) (of_ty A hA) | exact cMakeFunc rfl rfl | exact cPickT rfl rfl rfl | exact cPickF rfl rfl rfl | exact cLss rfl rfl rfl | exact cLeq rfl rfl rfl | exact cGtr rfl rfl rfl | exact cGeq rfl rfl rfl | exact cEql rfl rfl rfl | exact cNeq rfl rfl rfl | exact cExtract rfl rfl rfl)
           rotate_left))
  intro a w4 hF hb hN
  have hBs := hB.size
  replace hB := hB.trans (hb.mono hB.size)
  simp only [List.take_succ_cons, List.take_zero, List.drop_succ_cons, List.drop_zero] at hF hN ⊢
  dsimp only [ext, Option.getD] at hF
  obtain ⟨va, ⟨Sa, hsa, hSa⟩, hF⟩ := hF.open (s := 8) rfl
  have hen : Enters Try.prog 68 := fun args w => by kernel_rfl
  have heg : Enters Try.prog 69 := fun args w => by kernel_rfl
  have hlb := setL_len B
  have hpred : ∀ S : List Nat, (∀ y ∈ S, w3.heap.size ≤ y) → PredK Try.prog 69 #[.pointer (some ⟨gb, 0, none⟩)] S w4 (pM (setL B)) := fun S hS W x k => by
    have k' : Keeps [] w3 W := (Keeps.of_below (S := []) hB).trans' k fun y hy => .inr (hS y hy)
    exact minus1_ret (setL B) gb _ W (setL_srt B) (by omega) (hbb.below k'.below) ((Ty.sums 34 (setL B)).below hvb k'.below) x
  rcases hsa.cases with ⟨rfl, h0, h1, rfl⟩ | ⟨g, off, cap, rfl, rfl, hl⟩
  · refine tlCall rfl rfl rfl (args := #[.slice none 0 0, .func (.func 69) #[] #[.pointer (some ⟨gb, 0, none⟩)]]) ?_ hen (R := fun u w' => u = .slice none 0 0 ∧ Below w4.heap.size w4 w') ?_ ?_
    · simp only [List.map_toArray, List.map_cons, List.map_nil, hF.getEx (s := 8) rfl, hF.getEx (s := 9) rfl]
    · exact Calls.mono (delete_none heg w4 (hpred [] (by simp))) fun e w' ⟨u, a1, a2, a3⟩ => ⟨u, a1, a2, a3⟩
    rintro z w5 ⟨rfl, hb5⟩
    have hF := ((hF.keep []).below hb5).put (d := 10) (by decide) (Below.refl _ _) (V := Ty.ex (.slice none 0 0)) rfl
    replace hB := hB.trans (hb5.mono hB.size)
    refine' tlOp hF rfl rfl rfl ?_ ?_
    rotate_left
    · first | exact cMove rfl rfl | exact cAssign rfl rfl | exact cPickT rfl rfl rfl | exact cPickF rfl rfl rfl | exact cNot rfl rfl | exact cLss rfl rfl rfl | exact cLeq rfl rfl rfl | exact cGtr rfl rfl rfl | exact cGeq rfl rfl rfl | exact cEql rfl rfl rfl | exact cNeq rfl rfl rfl | exact cExtract rfl rfl rfl
    intro a w6 hF hb
    have hBs := hB.size
    replace hB := hB.trans (hb.mono hB.size)
    try (refine wpList_nil ?_)
    repeat (first | with_reducible refine wp_seq ?_ | with_reducible refine nThen ?_ | with_reducible refine nBlk ?_ | with_reducible refine wp_skip ?_ | with_reducible refine wp_block ?_ | with_reducible refine wp_exit ?_ | with_reducible refine xThen ?_ | with_reducible refine xHere ?_ | with_reducible refine xFar (by decide) ?_ | with_reducible refine wp_ret ?_ | with_reducible refine rThen ?_ | with_reducible refine rBlk ?_)
    refine ret1 hF rfl rfl fun z hz => ?_
    have hz : z = .slice none 0 0 := hz
    subst hz
    have hA0 : minusL A B = [] := by
      unfold minusL
      rw [List.eq_nil_of_length_eq_zero h0]
      rfl
    rw [hA0]
    exact ⟨_, rfl, ⟨[], Seg.nil _ _ _, by simp⟩, hkw.below.trans (hB.mono hB3)⟩
  · have hg : w3.heap.size ≤ g := hSa g (by simp)
    refine tlCall rfl rfl rfl (args := #[.slice (some ⟨g, off, none⟩) (setL A).length cap, .func (.func 69) #[] #[.pointer (some ⟨gb, 0, none⟩)]]) ?_ hen (R := fun u w' => u = .slice (some ⟨g, off, none⟩) (minusL A B).length cap ∧ SegL w' 34 32 g off (minusL A B).length cap (flat (minusL A B)) ∧ Keeps [g] w4 w') ?_ ?_
    · simp only [List.map_toArray, List.map_cons, List.map_nil, hF.getEx (s := 8) rfl, hF.getEx (s := 9) rfl]
    · refine (delete_any heg (setL A) w4 g off cap hl (by have := setL_len A; omega) (hpred [g] (by simpa using hg))).mono fun e w' ⟨k, h1, h2, h3, h4⟩ => ?_
      subst h2
      exact ⟨_, h1, rfl, h3, h4⟩
    rintro z w5 ⟨rfl, hl5, hk5⟩
    have hF := ((hF.keep []).free1 hk5 hl rfl).put (d := 10) (by decide) (Below.refl _ _) (V := Ty.ex (.slice (some ⟨g, off, none⟩) (minusL A B).length cap)) rfl
    replace hB := below_own hB hk5 (by simpa using hg)
    refine' tlOp hF rfl rfl rfl ?_ ?_
    rotate_left
    · first | exact cMove rfl rfl | exact cAssign rfl rfl | exact cPickT rfl rfl rfl | exact cPickF rfl rfl rfl | exact cNot rfl rfl | exact cLss rfl rfl rfl | exact cLeq rfl rfl rfl | exact cGtr rfl rfl rfl | exact cGeq rfl rfl rfl | exact cEql rfl rfl rfl | exact cNeq rfl rfl rfl | exact cExtract rfl rfl rfl
    intro a w6 hF hb
    have hBs := hB.size
    replace hB := hB.trans (hb.mono hB.size)
    try (refine wpList_nil ?_)
    repeat (first | with_reducible refine wp_seq ?_ | with_reducible refine nThen ?_ | with_reducible refine nBlk ?_ | with_reducible refine wp_skip ?_ | with_reducible refine wp_block ?_ | with_reducible refine wp_exit ?_ | with_reducible refine xThen ?_ | with_reducible refine xHere ?_ | with_reducible refine xFar (by decide) ?_ | with_reducible refine wp_ret ?_ | with_reducible refine rThen ?_ | with_reducible refine rBlk ?_)
    refine ret1 hF rfl rfl fun z hz => ?_
    have hz : z = .slice (some ⟨g, off, none⟩) (minusL A B).length cap := hz
    subst hz
    exact ⟨_, rfl, ⟨[g], (hl5.below hb).seg, by simp; exact Nat.le_trans hkw.size hg⟩, hkw.below.trans (hB.mono hB3)⟩
set_option maxRecDepth 100000 in
theorem both1_ret (B : List Sm) (gb : Nat) (vb : Value) (W : World) (hs : srt B) (hBl : B.length ≤ 1000000) (hgb : Blk W gb 25 #[vb]) (hvb : (Ty.sums 34 B).p W vb) (x : Sm) :
    Ret Try.prog 71 (#[.agg (u8s x.l)] ++ #[.pointer (some ⟨gb, 0, none⟩)]) W (Ty.ex (.bool (pB B x))) := by
  have hh := hasI_ty B x hBl hs
  unfold pB
  generalize decide (x ∈ B) = r at *
  refine enter_ty 8 [Ty.ex (.agg (u8s x.l)), Ty.ex (.pointer (some ⟨gb, 0, none⟩))] Try.func71 rfl (by kernel_rfl) ⟨rfl, rfl, trivial⟩ fun a hF => ?_
  have hB := Below.refl W.heap.size W
  repeat (first | with_reducible refine wp_seq ?_ | with_reducible refine nThen ?_ | with_reducible refine nBlk ?_ | with_reducible refine wp_skip ?_ | with_reducible refine wp_block ?_ | with_reducible refine wp_exit ?_ | with_reducible refine xThen ?_ | with_reducible refine xHere ?_ | with_reducible refine xFar (by decide) ?_ | with_reducible refine wp_ret ?_ | with_reducible refine rThen ?_ | with_reducible refine rBlk ?_)
  refine' reg_all hF ?_ mixed (by kernel_rfl) ?_
  rotate_left
  · repeat (first
        | exact Line.nil
        | (refine' Line.cons rfl (.no rfl rfl rfl rfl rfl rfl) ?_; rotate_left)
        | ((first | refine' Line.cons rfl (.run rfl rfl ?_) ?_ | refine' Line.cons rfl (.yes rfl rfl rfl rfl ?_) ?_)
           any_goals (first | exact cMove rfl rfl | exact cAssign rfl rfl | exact cNot rfl rfl | exact cBoxSum rfl rfl | exact cPickT rfl rfl rfl | exact cPickF rfl rfl rfl | exact cLss rfl rfl rfl | exact cLeq rfl rfl rfl | exact cGtr rfl rfl rfl | exact cGeq rfl rfl rfl | exact cEql rfl rfl rfl | exact cNeq rfl rfl rfl | exact cExtract rfl rfl rfl)
           rotate_left))
  intro a w1 hF hb hN
  have hBs := hB.size
  replace hB := hB.trans (hb.mono hB.size)
  dsimp only [ext, Option.getD] at hF
  repeat (first | with_reducible refine wp_seq ?_ | with_reducible refine nThen ?_ | with_reducible refine nBlk ?_ | with_reducible refine wp_skip ?_ | with_reducible refine wp_block ?_ | with_reducible refine wp_exit ?_ | with_reducible refine xThen ?_ | with_reducible refine xHere ?_ | with_reducible refine xFar (by decide) ?_ | with_reducible refine wp_ret ?_ | with_reducible refine rThen ?_ | with_reducible refine rBlk ?_)
  have hab : (Ty.at_ 25 [vb]).p w1 (.pointer (some ⟨gb, 0, none⟩)) := blk_at (hgb.below hB)
  have hvb1 : (Ty.sums 34 B).p w1 vb := (Ty.sums 34 B).below hvb hB
  refine' reg_all hF ?_ mixed (by kernel_rfl) ?_
  rotate_left
  · repeat (first
        | exact Line.nil
        | (refine' Line.cons rfl (.no rfl rfl rfl rfl rfl rfl) ?_; rotate_left)
        | ((first | refine' Line.cons rfl (.run rfl rfl ?_) ?_ | refine' Line.cons rfl (.yes rfl rfl rfl rfl ?_) ?_)
           any_goals (first | exact cMove rfl rfl | exact cAssign rfl rfl | exact cNot rfl rfl | exact cLoadSum rfl (.t rfl) Try.underlying34 sizeS | exact cLoad1 rfl (.l rfl hab) (pts_at _ _) Try.underlying25 rfl | exact cCallH2 rfl (.l rfl hvb1) (.t rfl) hh | exact cPickT rfl rfl rfl | exact cPickF rfl rfl rfl | exact cLss rfl rfl rfl | exact cLeq rfl rfl rfl | exact cGtr rfl rfl rfl | exact cGeq rfl rfl rfl | exact cEql rfl rfl rfl | exact cNeq rfl rfl rfl | exact cExtract rfl rfl rfl)
           rotate_left))
  intro a w2 hF hb hN
  have hBs := hB.size
  replace hB := hB.trans (hb.mono hB.size)
  dsimp only [ext, Option.getD] at hF
  repeat (first | with_reducible refine wp_seq ?_ | with_reducible refine nThen ?_ | with_reducible refine nBlk ?_ | with_reducible refine wp_skip ?_ | with_reducible refine wp_block ?_ | with_reducible refine wp_exit ?_ | with_reducible refine xThen ?_ | with_reducible refine xHere ?_ | with_reducible refine xFar (by decide) ?_ | with_reducible refine wp_ret ?_ | with_reducible refine rThen ?_ | with_reducible refine rBlk ?_)
  refine ret1 hF rfl rfl fun z hz => ?_
  exact ⟨z, rfl, hz, hB⟩

def bothL (A B : List Sm) : List Sm := (setL A).filter fun x => !pB (setL B) x
set_option maxRecDepth 100000 in
set_option maxHeartbeats 1000000 in
theorem both_ty (A B : List Sm) (hA : A.length ≤ 1000000) (hBl : B.length ≤ 1000000) : FnSeg2 Try.prog 22 (Ty.sums 34 A) (Ty.sums 34 B) 34 32 (bothL A B).length (flat (bothL A B)) := by
  refine ⟨fun args w => by kernel_rfl, fun w v u hv hu => ?_⟩
  have hu' := hu
  obtain ⟨Au, cu, rfl, -⟩ := hu'
  refine enter_ty 11 [Ty.ex v, Ty.ex (.slice Au B.length cu)] Try.func22 rfl (by kernel_rfl) ⟨rfl, rfl, trivial⟩ fun a hF => ?_
  have hB := Below.refl w.heap.size w
  repeat (first | with_reducible refine wp_seq ?_ | with_reducible refine nThen ?_ | with_reducible refine nBlk ?_ | with_reducible refine wp_skip ?_ | with_reducible refine wp_block ?_ | with_reducible refine wp_exit ?_ | with_reducible refine xThen ?_ | with_reducible refine xHere ?_ | with_reducible refine xFar (by decide) ?_ | with_reducible refine wp_ret ?_ | with_reducible refine rThen ?_ | with_reducible refine rBlk ?_)
  refine' reg_all hF ?_ mixed (by kernel_rfl) ?_
  rotate_left
  · repeat (first
        | exact Line.nil
        | (refine' Line.cons rfl (.no rfl rfl rfl rfl rfl rfl) ?_; rotate_left)
        | ((first | refine' Line.cons rfl (.run rfl rfl ?_) ?_ | refine' Line.cons rfl (.yes rfl rfl rfl rfl ?_) ?_)
           any_goals (first | exact cMove rfl rfl | exact cAssign rfl rfl | exact cNot rfl rfl | exact cBoxN rfl rfl | exact cPickT rfl rfl rfl | exact cPickF rfl rfl rfl | exact cLss rfl rfl rfl | exact cLeq rfl rfl rfl | exact cGtr rfl rfl rfl | exact cGeq rfl rfl rfl | exact cEql rfl rfl rfl | exact cNeq rfl rfl rfl | exact cExtract rfl rfl rfl)
           rotate_left))
  intro a w1 hF hb hN
  have hBs := hB.size
  replace hB := hB.trans (hb.mono hB.size)
  dsimp only [ext, Option.getD] at hF
  repeat (first | with_reducible refine wp_seq ?_ | with_reducible refine nThen ?_ | with_reducible refine nBlk ?_ | with_reducible refine wp_skip ?_ | with_reducible refine wp_block ?_ | with_reducible refine wp_exit ?_ | with_reducible refine xThen ?_ | with_reducible refine xHere ?_ | with_reducible refine xFar (by decide) ?_ | with_reducible refine wp_ret ?_ | with_reducible refine rThen ?_ | with_reducible refine rBlk ?_)
  obtain ⟨z, ⟨gb, rfl, hgb, hbb⟩, hF⟩ := hF.open (s := 3) rfl
  have hab := blk_at hbb
  have hbb0 := hbb
  refine' region_ty 2 mixed (by kernel_rfl) hF ?_ ?_
  rotate_left
  · simp only [List.take_succ_cons, List.take_zero]
    repeat (first
        | exact Line.nil
        | (refine' Line.cons rfl (.no rfl rfl rfl rfl rfl rfl) ?_; rotate_left)
        | ((first | refine' Line.cons rfl (.run rfl rfl ?_) ?_ | refine' Line.cons rfl (.yes rfl rfl rfl rfl ?_) ?_)
           any_goals (first | exact cMove rfl rfl | exact cAssign rfl rfl | exact cNot rfl rfl | exact cLoad1 rfl (.l rfl hab) (pts_at _ _) Try.underlying25 rfl | exact cCallS1 rfl (.l rfl ((Ty.sums 34 B).below hu hB)) (of_ty B hBl) | exact cPickT rfl rfl rfl | exact cPickF rfl rfl rfl | exact cLss rfl rfl rfl | exact cLeq rfl rfl rfl | exact cGtr rfl rfl rfl | exact cGeq rfl rfl rfl | exact cEql rfl rfl rfl | exact cNeq rfl rfl rfl | exact cExtract rfl rfl rfl)
           rotate_left))
  intro a w2 hF hb hN
  have hBs := hB.size
  replace hB := hB.trans (hb.mono hB.size)
  simp only [List.take_succ_cons, List.take_zero, List.drop_succ_cons, List.drop_zero] at hF hN ⊢
  dsimp only [ext, Option.getD] at hF
  have hb0 := hb
  obtain ⟨vb, ⟨Sb, hsb, hSb⟩, hF⟩ := hF.open (s := 6) rfl
  obtain ⟨Ab, cb, hvb, -⟩ := hsb.form
  subst hvb
  refine tlStoreV (Δ := [(0, Ty.ex v), (3, Ty.ex (.pointer (some ⟨gb, 0, none⟩)))]) hF rfl rfl rfl rfl (hF.getEx (s := 6) rfl) (hbb.below hb) rfl infoSL (by simp [Value.cells, Value.oneCell']) (hF.keep [0, 3]) rfl ?_
  intro w3 hF hbb hkb
  refine wpList_nil ?_
  repeat (first | with_reducible refine wp_seq ?_ | with_reducible refine nThen ?_ | with_reducible refine nBlk ?_ | with_reducible refine wp_skip ?_ | with_reducible refine wp_block ?_ | with_reducible refine wp_exit ?_ | with_reducible refine xThen ?_ | with_reducible refine xHere ?_ | with_reducible refine xFar (by decide) ?_ | with_reducible refine wp_ret ?_ | with_reducible refine rThen ?_ | with_reducible refine rBlk ?_)
  have hkw : Keeps [] w w3 := (Keeps.of_below (S := []) hB).trans' hkb (fun x hx => by simp only [List.mem_singleton] at hx; subst hx; exact .inr hgb)
  have hvb : (Ty.sums 34 (setL B)).p w3 (.slice Ab (setL B).length cb) := by
    refine (Ty.sums 34 (setL B)).st hsb.sl hkb ?_
    intro b hb _
    simp only [List.mem_singleton] at hb
    subst hb
    exact ⟨_, _, _, hbb0.below hb0, rfl⟩
  have hv3 := (Ty.sums 34 A).below hv hkw.below
  have hB3 := hkw.below.size
  have hB := Below.refl w3.heap.size w3
  refine' region_ty 3 mixed (by kernel_rfl) hF ?_ ?_
  rotate_left
  · simp only [List.take_succ_cons, List.take_zero]
    repeat (first
        | exact Line.nil
        | (refine' Line.cons rfl (.no rfl rfl rfl rfl rfl rfl) ?_; rotate_left)
        | ((first | refine' Line.cons rfl (.run rfl rfl ?_) ?_ | refine' Line.cons rfl (.yes rfl rfl rfl rfl ?_) ?_)
           any_goals (first | exact cMove rfl rfl | exact cAssign rfl rfl | exact cNot rfl rfl | exact cCallS1 rfl (.l rfl hv3) (of_ty A hA) | exact cMakeFunc rfl rfl | exact cPickT rfl rfl rfl | exact cPickF rfl rfl rfl | exact cLss rfl rfl rfl | exact cLeq rfl rfl rfl | exact cGtr rfl rfl rfl | exact cGeq rfl rfl rfl | exact cEql rfl rfl rfl | exact cNeq rfl rfl rfl | exact cExtract rfl rfl rfl)
           rotate_left))
  intro a w4 hF hb hN
  have hBs := hB.size
  replace hB := hB.trans (hb.mono hB.size)
  simp only [List.take_succ_cons, List.take_zero, List.drop_succ_cons, List.drop_zero] at hF hN ⊢
  dsimp only [ext, Option.getD] at hF
  obtain ⟨va, ⟨Sa, hsa, hSa⟩, hF⟩ := hF.open (s := 8) rfl
  have hen : Enters Try.prog 68 := fun args w => by kernel_rfl
  have heg : Enters Try.prog 71 := fun args w => by kernel_rfl
  have hlb := setL_len B
  have hpred : ∀ S : List Nat, (∀ y ∈ S, w3.heap.size ≤ y) → PredK Try.prog 71 #[.pointer (some ⟨gb, 0, none⟩)] S w4 (pB (setL B)) := fun S hS W x k => by
    have k' : Keeps [] w3 W := (Keeps.of_below (S := []) hB).trans' k fun y hy => .inr (hS y hy)
    exact both1_ret (setL B) gb _ W (setL_srt B) (by omega) (hbb.below k'.below) ((Ty.sums 34 (setL B)).below hvb k'.below) x
  rcases hsa.cases with ⟨rfl, h0, h1, rfl⟩ | ⟨g, off, cap, rfl, rfl, hl⟩
  · refine tlCall rfl rfl rfl (args := #[.slice none 0 0, .func (.func 71) #[] #[.pointer (some ⟨gb, 0, none⟩)]]) ?_ hen (R := fun u w' => u = .slice none 0 0 ∧ Below w4.heap.size w4 w') ?_ ?_
    · simp only [List.map_toArray, List.map_cons, List.map_nil, hF.getEx (s := 8) rfl, hF.getEx (s := 9) rfl]
    · exact Calls.mono (delete_none heg w4 (hpred [] (by simp))) fun e w' ⟨u, a1, a2, a3⟩ => ⟨u, a1, a2, a3⟩
    rintro z w5 ⟨rfl, hb5⟩
    have hF := ((hF.keep []).below hb5).put (d := 10) (by decide) (Below.refl _ _) (V := Ty.ex (.slice none 0 0)) rfl
    replace hB := hB.trans (hb5.mono hB.size)
    refine' tlOp hF rfl rfl rfl ?_ ?_
    rotate_left
    · first | exact cMove rfl rfl | exact cAssign rfl rfl | exact cPickT rfl rfl rfl | exact cPickF rfl rfl rfl | exact cNot rfl rfl | exact cLss rfl rfl rfl | exact cLeq rfl rfl rfl | exact cGtr rfl rfl rfl | exact cGeq rfl rfl rfl | exact cEql rfl rfl rfl | exact cNeq rfl rfl rfl | exact cExtract rfl rfl rfl
    intro a w6 hF hb
    have hBs := hB.size
    replace hB := hB.trans (hb.mono hB.size)
    try (refine wpList_nil ?_)
    repeat (first | with_reducible refine wp_seq ?_ | with_reducible refine nThen ?_ | with_reducible refine nBlk ?_ | with_reducible refine wp_skip ?_ | with_reducible refine wp_block ?_ | with_reducible refine wp_exit ?_ | with_reducible refine xThen ?_ | with_reducible refine xHere ?_ | with_reducible refine xFar (by decide) ?_ | with_reducible refine wp_ret ?_ | with_reducible refine rThen ?_ | with_reducible refine rBlk ?_)
    refine ret1 hF rfl rfl fun z hz => ?_
    have hz : z = .slice none 0 0 := hz
    subst hz
    have hA0 : bothL A B = [] := by
      unfold bothL
      rw [List.eq_nil_of_length_eq_zero h0]
      rfl
    rw [hA0]
    exact ⟨_, rfl, ⟨[], Seg.nil _ _ _, by simp⟩, hkw.below.trans (hB.mono hB3)⟩
  · have hg : w3.heap.size ≤ g := hSa g (by simp)
    refine tlCall rfl rfl rfl (args := #[.slice (some ⟨g, off, none⟩) (setL A).length cap, .func (.func 71) #[] #[.pointer (some ⟨gb, 0, none⟩)]]) ?_ hen (R := fun u w' => u = .slice (some ⟨g, off, none⟩) (bothL A B).length cap ∧ SegL w' 34 32 g off (bothL A B).length cap (flat (bothL A B)) ∧ Keeps [g] w4 w') ?_ ?_
    · simp only [List.map_toArray, List.map_cons, List.map_nil, hF.getEx (s := 8) rfl, hF.getEx (s := 9) rfl]
    · refine (delete_any heg (setL A) w4 g off cap hl (by have := setL_len A; omega) (hpred [g] (by simpa using hg))).mono fun e w' ⟨k, h1, h2, h3, h4⟩ => ?_
      subst h2
      exact ⟨_, h1, rfl, h3, h4⟩
    rintro z w5 ⟨rfl, hl5, hk5⟩
    have hF := ((hF.keep []).free1 hk5 hl rfl).put (d := 10) (by decide) (Below.refl _ _) (V := Ty.ex (.slice (some ⟨g, off, none⟩) (bothL A B).length cap)) rfl
    replace hB := below_own hB hk5 (by simpa using hg)
    refine' tlOp hF rfl rfl rfl ?_ ?_
    rotate_left
    · first | exact cMove rfl rfl | exact cAssign rfl rfl | exact cPickT rfl rfl rfl | exact cPickF rfl rfl rfl | exact cNot rfl rfl | exact cLss rfl rfl rfl | exact cLeq rfl rfl rfl | exact cGtr rfl rfl rfl | exact cGeq rfl rfl rfl | exact cEql rfl rfl rfl | exact cNeq rfl rfl rfl | exact cExtract rfl rfl rfl
    intro a w6 hF hb
    have hBs := hB.size
    replace hB := hB.trans (hb.mono hB.size)
    try (refine wpList_nil ?_)
    repeat (first | with_reducible refine wp_seq ?_ | with_reducible refine nThen ?_ | with_reducible refine nBlk ?_ | with_reducible refine wp_skip ?_ | with_reducible refine wp_block ?_ | with_reducible refine wp_exit ?_ | with_reducible refine xThen ?_ | with_reducible refine xHere ?_ | with_reducible refine xFar (by decide) ?_ | with_reducible refine wp_ret ?_ | with_reducible refine rThen ?_ | with_reducible refine rBlk ?_)
    refine ret1 hF rfl rfl fun z hz => ?_
    have hz : z = .slice (some ⟨g, off, none⟩) (bothL A B).length cap := hz
    subst hz
    exact ⟨_, rfl, ⟨[g], (hl5.below hb).seg, by simp; exact Nat.le_trans hkw.size hg⟩, hkw.below.trans (hB.mono hB3)⟩

set_option maxRecDepth 100000 in
theorem either_ty (A B : List Sm) (hA : A.length ≤ 400000) (hBl : B.length ≤ 400000) : FnSeg2 Try.prog 23 (Ty.sums 34 A) (Ty.sums 34 B) 34 32 (setL (A ++ B)).length (flat (setL (A ++ B))) := by
  refine ⟨fun args w => by kernel_rfl, fun w v u hv hu => ?_⟩
  have hab : [A, B].flatten = A ++ B := by simp
  have hc := concat_ty [A, B] (by rw [hab, List.length_append]; omega) (by simp)
  rw [hab] at hc
  have ho := of_ty (A ++ B) (by rw [List.length_append]; omega)
  have hi1 : (Try.prog.info? 25).map (fun i => (i.zero, i.size, i.bytes)) = some (some (.slice none 0 0), 1, 24) := by kernel_rfl
  refine enter_ty 10 [Ty.ex v, Ty.ex u] Try.func23 rfl (by kernel_rfl) ⟨rfl, rfl, trivial⟩ fun a hF => ?_
  have hB := Below.refl w.heap.size w
  repeat (first | with_reducible refine wp_seq ?_ | with_reducible refine nThen ?_ | with_reducible refine nBlk ?_ | with_reducible refine wp_skip ?_ | with_reducible refine wp_block ?_ | with_reducible refine wp_exit ?_ | with_reducible refine xThen ?_ | with_reducible refine xHere ?_ | with_reducible refine xFar (by decide) ?_ | with_reducible refine wp_ret ?_ | with_reducible refine rThen ?_ | with_reducible refine rBlk ?_)
  refine' reg_all hF ?_ mixed (by kernel_rfl) ?_
  rotate_left
  · repeat (first
        | exact Line.nil
        | (refine' Line.cons rfl (.no rfl rfl rfl rfl rfl rfl) ?_; rotate_left)
        | ((first | refine' Line.cons rfl (.run rfl rfl ?_) ?_ | refine' Line.cons rfl (.yes rfl rfl rfl rfl ?_) ?_)
           any_goals (first | exact cMove rfl rfl | exact cAssign rfl rfl | exact cNot rfl rfl | exact cPickT rfl rfl rfl | exact cPickF rfl rfl rfl | exact cLss rfl rfl rfl | exact cLeq rfl rfl rfl | exact cGtr rfl rfl rfl | exact cGeq rfl rfl rfl | exact cEql rfl rfl rfl | exact cNeq rfl rfl rfl | exact cExtract rfl rfl rfl)
           rotate_left))
  intro a w1 hF hb hN
  have hBs := hB.size
  replace hB := hB.trans (hb.mono hB.size)
  dsimp only [ext, Option.getD] at hF
  repeat (first | with_reducible refine wp_seq ?_ | with_reducible refine nThen ?_ | with_reducible refine nBlk ?_ | with_reducible refine wp_skip ?_ | with_reducible refine wp_block ?_ | with_reducible refine wp_exit ?_ | with_reducible refine xThen ?_ | with_reducible refine xHere ?_ | with_reducible refine xFar (by decide) ?_ | with_reducible refine wp_ret ?_ | with_reducible refine rThen ?_ | with_reducible refine rBlk ?_)
  have hv1 := (Ty.sums 34 A).below hv hB
  have hu1 := (Ty.sums 34 B).below hu hB
  refine' reg_all hF ?_ mixed (by kernel_rfl) ?_
  rotate_left
  · repeat (first
        | exact Line.nil
        | (refine' Line.cons rfl (.no rfl rfl rfl rfl rfl rfl) ?_; rotate_left)
        | ((first | refine' Line.cons rfl (.run rfl rfl ?_) ?_ | refine' Line.cons rfl (.yes rfl rfl rfl rfl ?_) ?_)
           any_goals (first | exact cMove rfl rfl | exact cAssign rfl rfl | exact cNot rfl rfl | exact cBuildT (τs := [Ty.sums 34 A, Ty.sums 34 B]) rfl (partsT2 rfl (.l rfl hv1) (.l rfl hu1) (Ty.sl_isSl _ _ _) (Ty.sl_isSl _ _ _)) Try.underlying137 hi1 rfl | exact cCallS1 rfl (.t rfl) hc | exact cCallS1 rfl (Has.c (.t rfl) seg_sl) ho | exact cPickT rfl rfl rfl | exact cPickF rfl rfl rfl | exact cLss rfl rfl rfl | exact cLeq rfl rfl rfl | exact cGtr rfl rfl rfl | exact cGeq rfl rfl rfl | exact cEql rfl rfl rfl | exact cNeq rfl rfl rfl | exact cExtract rfl rfl rfl)
           rotate_left))
  intro a w2 hF hb hN
  have hBs := hB.size
  replace hB := hB.trans (hb.mono hB.size)
  dsimp only [ext, Option.getD] at hF
  repeat (first | with_reducible refine wp_seq ?_ | with_reducible refine nThen ?_ | with_reducible refine nBlk ?_ | with_reducible refine wp_skip ?_ | with_reducible refine wp_block ?_ | with_reducible refine wp_exit ?_ | with_reducible refine xThen ?_ | with_reducible refine xHere ?_ | with_reducible refine xFar (by decide) ?_ | with_reducible refine wp_ret ?_ | with_reducible refine rThen ?_ | with_reducible refine rBlk ?_)
  refine ret1 hF rfl rfl fun z hz => ?_
  exact ⟨z, rfl, seg_old hBs _ _ hz, hB⟩
end Go.Proofs.Ytmlbkcpmgcjblaa
