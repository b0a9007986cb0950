/- Joined: SetD, SetE, TabC, TabD, TabE, TabF, LaysS, SetF, SetG, SetP, PlaceH. -/
import Derived.Laws.MakeOwn
import Derived.Test.YtmlbkcpmgcjblaaProg
import Derived.Shelf.SlGeneric
import Derived.Shelf.SlSortCmp.NoneTotal
import Derived.Ground.SlsfProg
import Derived.KernelRfl
import Derived.Deep.QuietTactic
import Derived.BigQuiet
import Derived.Lib.SlBytesConst
import Derived.Test.YtmlbkcpmgcjblaaZPeelX2
/- Layer 10: the walks of Equal, Same; of the document's own Same, Has. -/
namespace Go.Proofs.Ytmlbkcpmgcjblaa
open Go.RowKit

theorem eq_of_get {L M : List Sm} (hl : L.length = M.length) (h : ∀ j, j < L.length → L.getD j default = M.getD j default) : L = M := by
  apply List.ext_getElem hl
  intro i h1 h2
  have := h i h1
  simpa [List.getD, List.getElem?_eq_getElem h1, List.getElem?_eq_getElem h2] using this

set_option maxRecDepth 100000 in
theorem equal_ty (L M : List Sm) (hL : L.length ≤ 1000000) : Fn2 Try.prog 73 (Ty.sums 34 L) (Ty.sums 34 M) (Ty.ex (.bool (decide (L = M)))) := by
  refine ⟨fun args w => by kernel_rfl, fun w v u hv hu => ?_⟩
  refine enter_ty 26 [Ty.ex v, Ty.ex u] Try.func73 rfl (by kernel_rfl) ⟨rfl, rfl, trivial⟩ fun a hF => ?_
  have hB := Below.refl w.heap.size w
  repeat with_reducible first | refine wp_seq ?_ | refine nThen ?_ | refine nBlk ?_ | refine wp_skip ?_ | refine wp_block ?_ | refine wp_exit ?_ | refine xThen ?_ | refine xHere ?_ | refine xFar (by decide) ?_ | refine wp_ret ?_ | refine rThen ?_ | refine rBlk ?_
  refine' reg_all hF ?_ mixed (by kernel_rfl) ?_
  rotate_left
  · repeat (first
        | exact Line.nil
        | (refine' Line.cons rfl (.no rfl rfl rfl rfl rfl rfl) ?_; rotate_left)
        | ((first | refine' Line.cons rfl (.run rfl rfl ?_) ?_ | refine' Line.cons rfl (.yes rfl rfl rfl rfl ?_) ?_)
           any_goals (first | exact cMove rfl rfl | exact cAssign rfl rfl | exact cPickT rfl rfl rfl | exact cPickF rfl rfl rfl | exact cNot rfl rfl | exact cLss rfl rfl rfl | exact cLeq rfl rfl rfl | exact cGtr rfl rfl rfl | exact cGeq rfl rfl rfl | exact cEql rfl rfl rfl | exact cNeq rfl rfl rfl | exact cExtract rfl rfl rfl)
           rotate_left))
  intro a w1 hF hb hN
  replace hB := hB.trans (hb.mono hB.size)
  dsimp only [ext, Option.getD] at hF
  repeat with_reducible first | refine wp_seq ?_ | refine nThen ?_ | refine nBlk ?_ | refine wp_skip ?_ | refine wp_block ?_ | refine wp_exit ?_ | refine xThen ?_ | refine xHere ?_ | refine xFar (by decide) ?_ | refine wp_ret ?_ | refine rThen ?_ | refine rBlk ?_
  refine' reg_all hF ?_ mixed (by kernel_rfl) ?_
  rotate_left
  · repeat (first
        | exact Line.nil
        | (refine' Line.cons rfl (.no rfl rfl rfl rfl rfl rfl) ?_; rotate_left)
        | ((first | refine' Line.cons rfl (.run rfl rfl ?_) ?_ | refine' Line.cons rfl (.yes rfl rfl rfl rfl ?_) ?_)
           any_goals (first | exact cLenH rfl (.l rfl ((Ty.sums 34 L).below hv hB)) (Ty.sl_isSl _ _ _) Try.underlying25 | exact cLenH rfl (.l rfl ((Ty.sums 34 M).below hu hB)) (Ty.sl_isSl _ _ _) Try.underlying25 | exact cMove rfl rfl | exact cAssign rfl rfl | exact cPickT rfl rfl rfl | exact cPickF rfl rfl rfl | exact cNot rfl rfl | exact cLss rfl rfl rfl | exact cLeq rfl rfl rfl | exact cGtr rfl rfl rfl | exact cGeq rfl rfl rfl | exact cEql rfl rfl rfl | exact cNeq rfl rfl rfl | exact cExtract rfl rfl rfl)
           rotate_left))
  intro a w2 hF hb hN
  replace hB := hB.trans (hb.mono hB.size)
  dsimp only [ext, Option.getD] at hF
  repeat with_reducible first | refine wp_seq ?_ | refine nThen ?_ | refine nBlk ?_ | refine wp_skip ?_ | refine wp_block ?_ | refine wp_exit ?_ | refine xThen ?_ | refine xHere ?_ | refine xFar (by decide) ?_ | refine wp_ret ?_ | refine rThen ?_ | refine rBlk ?_
  refine cond_ty hF rfl (fun hne => ?_) (fun heq => ?_)
  · have hne : ¬ L.length = M.length := fun h => by rw [h] at hne; simp at hne
    repeat with_reducible first | refine wp_seq ?_ | refine nThen ?_ | refine nBlk ?_ | refine wp_skip ?_ | refine wp_block ?_ | refine wp_exit ?_ | refine xThen ?_ | refine xHere ?_ | refine xFar (by decide) ?_ | refine wp_ret ?_ | refine rThen ?_ | refine rBlk ?_
    refine' reg_all hF ?_ mixed (by kernel_rfl) ?_
    rotate_left
    · repeat (first
          | exact Line.nil
          | (refine' Line.cons rfl (.no rfl rfl rfl rfl rfl rfl) ?_; rotate_left)
          | ((first | refine' Line.cons rfl (.run rfl rfl ?_) ?_ | refine' Line.cons rfl (.yes rfl rfl rfl rfl ?_) ?_)
             any_goals (first | exact cMove rfl rfl | exact cAssign rfl rfl | exact cPickT rfl rfl rfl | exact cPickF rfl rfl rfl | exact cNot rfl rfl | exact cLss rfl rfl rfl | exact cLeq rfl rfl rfl | exact cGtr rfl rfl rfl | exact cGeq rfl rfl rfl | exact cEql rfl rfl rfl | exact cNeq rfl rfl rfl | exact cExtract rfl rfl rfl)
             rotate_left))
    intro a w3 hF hb hN
    replace hB := hB.trans (hb.mono hB.size)
    dsimp only [ext, Option.getD] at hF
    repeat with_reducible first | refine wp_seq ?_ | refine nThen ?_ | refine nBlk ?_ | refine wp_skip ?_ | refine wp_block ?_ | refine wp_exit ?_ | refine xThen ?_ | refine xHere ?_ | refine xFar (by decide) ?_ | refine wp_ret ?_ | refine rThen ?_ | refine rBlk ?_
    refine ret1 hF rfl rfl fun z hz => ?_
    exact ⟨z, rfl, by rw [decide_eq_false (show ¬ L = M from fun h => hne (by rw [h]))]; exact hz, hB⟩
  have heq : L.length = M.length := by simp at heq; omega
  repeat with_reducible first | refine wp_seq ?_ | refine nThen ?_ | refine nBlk ?_ | refine wp_skip ?_ | refine wp_block ?_ | refine wp_exit ?_ | refine xThen ?_ | refine xHere ?_ | refine xFar (by decide) ?_ | refine wp_ret ?_ | refine rThen ?_ | refine rBlk ?_
  refine' reg_all hF ?_ mixed (by kernel_rfl) ?_
  rotate_left
  · repeat (first
        | exact Line.nil
        | (refine' Line.cons rfl (.no rfl rfl rfl rfl rfl rfl) ?_; rotate_left)
        | ((first | refine' Line.cons rfl (.run rfl rfl ?_) ?_ | refine' Line.cons rfl (.yes rfl rfl rfl rfl ?_) ?_)
           any_goals (first | exact cLenH rfl (.l rfl ((Ty.sums 34 L).below hv hB)) (Ty.sl_isSl _ _ _) Try.underlying25 | exact cMove rfl rfl | exact cAssign rfl rfl | exact cPickT rfl rfl rfl | exact cPickF rfl rfl rfl | exact cNot rfl rfl | exact cLss rfl rfl rfl | exact cLeq rfl rfl rfl | exact cGtr rfl rfl rfl | exact cGeq rfl rfl rfl | exact cEql rfl rfl rfl | exact cNeq rfl rfl rfl | exact cExtract rfl rfl rfl)
           rotate_left))
  intro a w3 hF hb hN
  replace hB := hB.trans (hb.mono hB.size)
  dsimp only [ext, Option.getD] at hF
  repeat with_reducible first | refine wp_seq ?_ | refine nThen ?_ | refine nBlk ?_ | refine wp_skip ?_ | refine wp_block ?_ | refine wp_exit ?_ | refine xThen ?_ | refine xHere ?_ | refine xFar (by decide) ?_ | refine wp_ret ?_ | refine rThen ?_ | refine rBlk ?_
  refine loop_ty (fun m a wr => ∃ k : Nat, k + m = L.length ∧ Fr 26 [(0, Ty.ex v), (1, Ty.ex u), (12, Ty.ex (.int .i64 (L.length : Int))), (13, Ty.ex (.int .i64 (k : Int)))] a wr ∧ Below w.heap.size w wr ∧ ∀ j, j < k → L.getD j default = M.getD j default) L.length ?_ ?_
  · exact ⟨0, by omega, hF.keep [0, 1, 12, 13], hB, fun j hj => by omega⟩
  clear hF hB
  rintro m a wr ⟨k, hk, hF, hB, hlo⟩
  repeat with_reducible first | refine wp_seq ?_ | refine nThen ?_ | refine nBlk ?_ | refine wp_skip ?_ | refine wp_block ?_ | refine wp_exit ?_ | refine xThen ?_ | refine xHere ?_ | refine xFar (by decide) ?_ | refine wp_ret ?_ | refine rThen ?_ | refine rBlk ?_
  refine' reg_all hF ?_ mixed (by kernel_rfl) ?_
  rotate_left
  · repeat (first
        | exact Line.nil
        | (refine' Line.cons rfl (.no rfl rfl rfl rfl rfl rfl) ?_; rotate_left)
        | ((first | refine' Line.cons rfl (.run rfl rfl ?_) ?_ | refine' Line.cons rfl (.yes rfl rfl rfl rfl ?_) ?_)
           any_goals (first | exact cMove rfl rfl | exact cAssign rfl rfl | exact cPickT rfl rfl rfl | exact cPickF rfl rfl rfl | exact cNot rfl rfl | exact cLss rfl rfl rfl | exact cLeq rfl rfl rfl | exact cGtr rfl rfl rfl | exact cGeq rfl rfl rfl | exact cEql rfl rfl rfl | exact cNeq rfl rfl rfl | exact cExtract rfl rfl rfl)
           rotate_left))
  intro a w4 hF hb hN
  replace hB := hB.trans (hb.mono hB.size)
  dsimp only [ext, Option.getD] at hF
  repeat with_reducible first | refine wp_seq ?_ | refine nThen ?_ | refine nBlk ?_ | refine wp_skip ?_ | refine wp_block ?_ | refine wp_exit ?_ | refine xThen ?_ | refine xHere ?_ | refine xFar (by decide) ?_ | refine wp_ret ?_ | refine rThen ?_ | refine rBlk ?_
  refine cond_ty hF rfl (fun hlt => ?_) (fun hge => ?_)
  · have hlt : k < L.length := by simpa using hlt
    repeat with_reducible first | refine wp_seq ?_ | refine nThen ?_ | refine nBlk ?_ | refine wp_skip ?_ | refine wp_block ?_ | refine wp_exit ?_ | refine xThen ?_ | refine xHere ?_ | refine xFar (by decide) ?_ | refine wp_ret ?_ | refine rThen ?_ | refine rBlk ?_
    refine' reg_all hF ?_ mixed (by kernel_rfl) ?_
    rotate_left
    · repeat (first
          | exact Line.nil
          | (refine' Line.cons rfl (.no rfl rfl rfl rfl rfl rfl) ?_; rotate_left)
          | ((first | refine' Line.cons rfl (.run rfl rfl ?_) ?_ | refine' Line.cons rfl (.yes rfl rfl rfl rfl ?_) ?_)
             any_goals (first | exact cMove rfl rfl | exact cAssign rfl rfl | exact cPickT rfl rfl rfl | exact cPickF rfl rfl rfl | exact cNot rfl rfl | exact cLss rfl rfl rfl | exact cLeq rfl rfl rfl | exact cGtr rfl rfl rfl | exact cGeq rfl rfl rfl | exact cEql rfl rfl rfl | exact cNeq rfl rfl rfl | exact cExtract rfl rfl rfl)
             rotate_left))
    intro a w5 hF hb hN
    replace hB := hB.trans (hb.mono hB.size)
    dsimp only [ext, Option.getD] at hF
    repeat with_reducible first | refine wp_seq ?_ | refine nThen ?_ | refine nBlk ?_ | refine wp_skip ?_ | refine wp_block ?_ | refine wp_exit ?_ | refine xThen ?_ | refine xHere ?_ | refine xFar (by decide) ?_ | refine wp_ret ?_ | refine rThen ?_ | refine rBlk ?_
    refine' reg_all hF ?_ mixed (by kernel_rfl) ?_
    rotate_left
    · repeat (first
          | exact Line.nil
          | (refine' Line.cons rfl (.no rfl rfl rfl rfl rfl rfl) ?_; rotate_left)
          | ((first | refine' Line.cons rfl (.run rfl rfl ?_) ?_ | refine' Line.cons rfl (.yes rfl rfl rfl rfl ?_) ?_)
             any_goals (first | exact cIndexSum (k := k) rfl (.l rfl ((Ty.sums 34 L).below hv hB)) rfl Try.underlying25 sizeS hlt | exact cIndexSum (k := k) rfl (.l rfl ((Ty.sums 34 M).below hu hB)) rfl Try.underlying25 sizeS (by omega) | exact cLoadSum rfl (.t rfl) Try.underlying34 sizeS | exact cNeqAgg rfl rfl rfl guardS (neqS _ _) | exact cMove rfl rfl | exact cAssign rfl rfl | exact cPickT rfl rfl rfl | exact cPickF rfl rfl rfl | exact cNot rfl rfl | exact cLss rfl rfl rfl | exact cLeq rfl rfl rfl | exact cGtr rfl rfl rfl | exact cGeq rfl rfl rfl | exact cEql rfl rfl rfl | exact cNeq rfl rfl rfl | exact cExtract rfl rfl rfl)
             rotate_left))
    intro a w6 hF hb hN
    replace hB := hB.trans (hb.mono hB.size)
    dsimp only [ext, Option.getD] at hF
    repeat with_reducible first | refine wp_seq ?_ | refine nThen ?_ | refine nBlk ?_ | refine wp_skip ?_ | refine wp_block ?_ | refine wp_exit ?_ | refine xThen ?_ | refine xHere ?_ | refine xFar (by decide) ?_ | refine wp_ret ?_ | refine rThen ?_ | refine rBlk ?_
    refine cond_ty hF rfl (fun hbad => ?_) (fun hok => ?_)
    · have hbad : ¬ L.getD k default = M.getD k default := by simpa using hbad
      repeat with_reducible first | refine wp_seq ?_ | refine nThen ?_ | refine nBlk ?_ | refine wp_skip ?_ | refine wp_block ?_ | refine wp_exit ?_ | refine xThen ?_ | refine xHere ?_ | refine xFar (by decide) ?_ | refine wp_ret ?_ | refine rThen ?_ | refine rBlk ?_
      refine' reg_all hF ?_ mixed (by kernel_rfl) ?_
      rotate_left
      · repeat (first
            | exact Line.nil
            | (refine' Line.cons rfl (.no rfl rfl rfl rfl rfl rfl) ?_; rotate_left)
            | ((first | refine' Line.cons rfl (.run rfl rfl ?_) ?_ | refine' Line.cons rfl (.yes rfl rfl rfl rfl ?_) ?_)
               any_goals (first | exact cMove rfl rfl | exact cAssign rfl rfl | exact cPickT rfl rfl rfl | exact cPickF rfl rfl rfl | exact cNot rfl rfl | exact cLss rfl rfl rfl | exact cLeq rfl rfl rfl | exact cGtr rfl rfl rfl | exact cGeq rfl rfl rfl | exact cEql rfl rfl rfl | exact cNeq rfl rfl rfl | exact cExtract rfl rfl rfl)
               rotate_left))
      intro a w7 hF hb hN
      replace hB := hB.trans (hb.mono hB.size)
      dsimp only [ext, Option.getD] at hF
      repeat with_reducible first | refine wp_seq ?_ | refine nThen ?_ | refine nBlk ?_ | refine wp_skip ?_ | refine wp_block ?_ | refine wp_exit ?_ | refine xThen ?_ | refine xHere ?_ | refine xFar (by decide) ?_ | refine wp_ret ?_ | refine rThen ?_ | refine rBlk ?_
      refine ret1 hF rfl rfl fun z hz => ?_
      exact ⟨z, rfl, by rw [decide_eq_false (show ¬ L = M from fun h => hbad (by rw [h]))]; exact hz, hB⟩
    · have hok : L.getD k default = M.getD k default := by simpa using hok
      repeat with_reducible first | refine wp_seq ?_ | refine nThen ?_ | refine nBlk ?_ | refine wp_skip ?_ | refine wp_block ?_ | refine wp_exit ?_ | refine xThen ?_ | refine xHere ?_ | refine xFar (by decide) ?_ | refine wp_ret ?_ | refine rThen ?_ | refine rBlk ?_
      refine' reg_all hF ?_ mixed (by kernel_rfl) ?_
      rotate_left
      · repeat (first
            | exact Line.nil
            | (refine' Line.cons rfl (.no rfl rfl rfl rfl rfl rfl) ?_; rotate_left)
            | ((first | refine' Line.cons rfl (.run rfl rfl ?_) ?_ | refine' Line.cons rfl (.yes rfl rfl rfl rfl ?_) ?_)
               any_goals (first | exact cAdd (r := ((k + 1 : Nat) : Int)) rfl rfl rfl (by omega) | exact cMove rfl rfl | exact cAssign rfl rfl | exact cPickT rfl rfl rfl | exact cPickF rfl rfl rfl | exact cNot rfl rfl | exact cLss rfl rfl rfl | exact cLeq rfl rfl rfl | exact cGtr rfl rfl rfl | exact cGeq rfl rfl rfl | exact cEql rfl rfl rfl | exact cNeq rfl rfl rfl | exact cExtract rfl rfl rfl)
               rotate_left))
      intro a w7 hF hb hN
      replace hB := hB.trans (hb.mono hB.size)
      dsimp only [ext, Option.getD] at hF
      repeat with_reducible first | refine wp_seq ?_ | refine nThen ?_ | refine nBlk ?_ | refine wp_skip ?_ | refine wp_block ?_ | refine wp_exit ?_ | refine xThen ?_ | refine xHere ?_ | refine xFar (by decide) ?_ | refine wp_ret ?_ | refine rThen ?_ | refine rBlk ?_
      refine ⟨m - 1, by omega, k + 1, by omega, hF.keep [0, 1, 12, 13], hB, fun j hj => ?_⟩
      by_cases hjk : j < k
      · exact hlo j hjk
      · obtain rfl : j = k := by omega
        exact hok
  · have hge : ¬ k < L.length := by simpa using hge
    repeat with_reducible first | refine wp_seq ?_ | refine nThen ?_ | refine nBlk ?_ | refine wp_skip ?_ | refine wp_block ?_ | refine wp_exit ?_ | refine xThen ?_ | refine xHere ?_ | refine xFar (by decide) ?_ | refine wp_ret ?_ | refine rThen ?_ | refine rBlk ?_
    refine' reg_all hF ?_ mixed (by kernel_rfl) ?_
    rotate_left
    · repeat (first
          | exact Line.nil
          | (refine' Line.cons rfl (.no rfl rfl rfl rfl rfl rfl) ?_; rotate_left)
          | ((first | refine' Line.cons rfl (.run rfl rfl ?_) ?_ | refine' Line.cons rfl (.yes rfl rfl rfl rfl ?_) ?_)
             any_goals (first | exact cMove rfl rfl | exact cAssign rfl rfl | exact cPickT rfl rfl rfl | exact cPickF rfl rfl rfl | exact cNot rfl rfl | exact cLss rfl rfl rfl | exact cLeq rfl rfl rfl | exact cGtr rfl rfl rfl | exact cGeq rfl rfl rfl | exact cEql rfl rfl rfl | exact cNeq rfl rfl rfl | exact cExtract rfl rfl rfl)
             rotate_left))
    intro a w5 hF hb hN
    replace hB := hB.trans (hb.mono hB.size)
    dsimp only [ext, Option.getD] at hF
    repeat with_reducible first | refine wp_seq ?_ | refine nThen ?_ | refine nBlk ?_ | refine wp_skip ?_ | refine wp_block ?_ | refine wp_exit ?_ | refine xThen ?_ | refine xHere ?_ | refine xFar (by decide) ?_ | refine wp_ret ?_ | refine rThen ?_ | refine rBlk ?_
    refine ret1 hF rfl rfl fun z hz => ?_
    exact ⟨z, rfl, by rw [decide_eq_true (eq_of_get heq fun j hj => hlo j (by omega))]; exact hz, hB⟩

theorem mem_get {L : List Sm} {x : Sm} : x ∈ L ↔ ∃ j, j < L.length ∧ L.getD j default = x := by
  constructor
  · intro h
    obtain ⟨j, hj, rfl⟩ := List.getElem_of_mem h
    exact ⟨j, hj, by simp [List.getD, List.getElem?_eq_getElem hj]⟩
  · rintro ⟨j, hj, rfl⟩
    simp only [List.getD, List.getElem?_eq_getElem hj, Option.getD_some]
    exact List.getElem_mem hj
/-- Alike: both may be, and are alike. -/
def sameL (L M : List Sm) : Bool := goodL L && goodL M && decide (L = M)
set_option maxRecDepth 100000 in
theorem same_ty (L M : List Sm) (hL : L.length ≤ 1000000) (hM : M.length ≤ 1000000) : Fn2 Try.prog 24 (Ty.sums 34 L) (Ty.sums 34 M) (Ty.ex (.bool (sameL L M))) := by
  refine ⟨fun args w => by kernel_rfl, fun w v u hv hu => ?_⟩
  unfold sameL
  have g1 := good_ty L hL
  have g2 := good_ty M hM
  have hE := equal_ty L M hL
  generalize goodL L = b1 at *
  generalize goodL M = b2 at *
  generalize decide (L = M) = b3 at *
  cases b1 <;> cases b2
  all_goals
    refine enter_ty 16 [Ty.sums 34 L, Ty.sums 34 M] Try.func24 rfl (by kernel_rfl) ⟨hv, hu, trivial⟩ fun a hF => ?_
    have hB := Below.refl w.heap.size w
    repeat with_reducible first | refine wp_seq ?_ | refine nThen ?_ | refine nBlk ?_ | refine wp_skip ?_ | refine wp_block ?_ | refine wp_exit ?_ | refine xThen ?_ | refine xHere ?_ | refine xFar (by decide) ?_ | refine wp_ret ?_ | refine rThen ?_ | refine rBlk ?_
    refine' reg_all hF ?_ mixed (by kernel_rfl) ?_
    rotate_left
    · repeat (first
          | exact Line.nil
          | (refine' Line.cons rfl (.no rfl rfl rfl rfl rfl rfl) ?_; rotate_left)
          | ((first | refine' Line.cons rfl (.run rfl rfl ?_) ?_ | refine' Line.cons rfl (.yes rfl rfl rfl rfl ?_) ?_)
             any_goals (first | exact cMove rfl rfl | exact cAssign rfl rfl | exact cPickT rfl rfl rfl | exact cPickF rfl rfl rfl | exact cNot rfl rfl | exact cLss rfl rfl rfl | exact cLeq rfl rfl rfl | exact cGtr rfl rfl rfl | exact cGeq rfl rfl rfl | exact cEql rfl rfl rfl | exact cNeq rfl rfl rfl | exact cExtract rfl rfl rfl)
             rotate_left))
    intro a w1 hF hb hN
    replace hB := hB.trans (hb.mono hB.size)
    dsimp only [ext, Option.getD] at hF
    repeat with_reducible first | refine wp_seq ?_ | refine nThen ?_ | refine nBlk ?_ | refine wp_skip ?_ | refine wp_block ?_ | refine wp_exit ?_ | refine xThen ?_ | refine xHere ?_ | refine xFar (by decide) ?_ | refine wp_ret ?_ | refine rThen ?_ | refine rBlk ?_
    refine' reg_all hF ?_ mixed (by kernel_rfl) ?_
    rotate_left
    · repeat (first
          | exact Line.nil
          | (refine' Line.cons rfl (.no rfl rfl rfl rfl rfl rfl) ?_; rotate_left)
          | ((first | refine' Line.cons rfl (.run rfl rfl ?_) ?_ | refine' Line.cons rfl (.yes rfl rfl rfl rfl ?_) ?_)
             any_goals (first | exact cCallH1 rfl (.t rfl) g1 | exact cCallH1 rfl (.t rfl) g2 | exact cCallH2 rfl (.t rfl) (.t rfl) hE | exact cMove rfl rfl | exact cAssign rfl rfl | exact cPickT rfl rfl rfl | exact cPickF rfl rfl rfl | exact cNot rfl rfl | exact cLss rfl rfl rfl | exact cLeq rfl rfl rfl | exact cGtr rfl rfl rfl | exact cGeq rfl rfl rfl | exact cEql rfl rfl rfl | exact cNeq rfl rfl rfl | exact cExtract rfl rfl rfl)
             rotate_left))
    intro a w2 hF hb hN
    replace hB := hB.trans (hb.mono hB.size)
    dsimp only [ext, Option.getD] at hF
    repeat with_reducible first | refine wp_seq ?_ | refine nThen ?_ | refine nBlk ?_ | refine wp_skip ?_ | refine wp_block ?_ | refine wp_exit ?_ | refine xThen ?_ | refine xHere ?_ | refine xFar (by decide) ?_ | refine wp_ret ?_ | refine rThen ?_ | refine rBlk ?_
    refine ret1 hF rfl rfl fun z hz => ?_
    exact ⟨z, rfl, hz, hB⟩
end Go.Proofs.Ytmlbkcpmgcjblaa

/- Layer 10: the walks of Clone, Grow, Concat. -/
namespace Go.Proofs.Ytmlbkcpmgcjblaa
open Go.RowKit

set_option maxRecDepth 100000 in
theorem cloneS_ty (L : List Sm) (hL : L.length ≤ 1000000) : FnSeg1 Try.prog 64 (Ty.sums 34 L) 34 32 L.length (flat L) := by
  refine ⟨fun args w => by kernel_rfl, fun w v hv => ?_⟩
  have hv' := hv
  obtain ⟨A, c, rfl, hnc, hcm, hA, hr⟩ := hv'
  refine enter_ty 8 [Ty.ex (.slice A L.length c)] Try.func64 rfl (by kernel_rfl) ⟨rfl, trivial⟩ fun a hF => ?_
  have hB := Below.refl w.heap.size w
  repeat with_reducible first | refine wp_seq ?_ | refine nThen ?_ | refine nBlk ?_ | refine wp_skip ?_ | refine wp_block ?_ | refine wp_exit ?_ | refine xThen ?_ | refine xHere ?_ | refine xFar (by decide) ?_ | refine wp_ret ?_ | refine rThen ?_ | refine rBlk ?_
  refine' reg_all hF ?_ mixed (by kernel_rfl) ?_
  rotate_left
  · repeat (first
        | exact Line.nil
        | (refine' Line.cons rfl (.no rfl rfl rfl rfl rfl rfl) ?_; rotate_left)
        | ((first | refine' Line.cons rfl (.run rfl rfl ?_) ?_ | refine' Line.cons rfl (.yes rfl rfl rfl rfl ?_) ?_)
           any_goals (first | exact cMove rfl rfl | exact cAssign rfl rfl | exact cPickT rfl rfl rfl | exact cPickF rfl rfl rfl | exact cNot rfl rfl | exact cLss rfl rfl rfl | exact cLeq rfl rfl rfl | exact cGtr rfl rfl rfl | exact cGeq rfl rfl rfl | exact cEql rfl rfl rfl | exact cNeq rfl rfl rfl | exact cExtract rfl rfl rfl)
           rotate_left))
  intro a w1 hF hb hN
  have hBs := hB.size
  replace hB := hB.trans (hb.mono hB.size)
  dsimp only [ext, Option.getD] at hF
  repeat with_reducible first | refine wp_seq ?_ | refine nThen ?_ | refine nBlk ?_ | refine wp_skip ?_ | refine wp_block ?_ | refine wp_exit ?_ | refine xThen ?_ | refine xHere ?_ | refine xFar (by decide) ?_ | refine wp_ret ?_ | refine rThen ?_ | refine rBlk ?_
  refine' reg_all hF ?_ mixed (by kernel_rfl) ?_
  rotate_left
  · repeat (first
        | exact Line.nil
        | (refine' Line.cons rfl (.no rfl rfl rfl rfl rfl rfl) ?_; rotate_left)
        | ((first | refine' Line.cons rfl (.run rfl rfl ?_) ?_ | refine' Line.cons rfl (.yes rfl rfl rfl rfl ?_) ?_)
           any_goals (first | exact cEqlNil rfl rfl Try.underlying24 | exact cMove rfl rfl | exact cAssign rfl rfl | exact cPickT rfl rfl rfl | exact cPickF rfl rfl rfl | exact cNot rfl rfl | exact cLss rfl rfl rfl | exact cLeq rfl rfl rfl | exact cGtr rfl rfl rfl | exact cGeq rfl rfl rfl | exact cEql rfl rfl rfl | exact cNeq rfl rfl rfl | exact cExtract rfl rfl rfl)
           rotate_left))
  intro a w2 hF hb hN
  have hBs := hB.size
  replace hB := hB.trans (hb.mono hB.size)
  dsimp only [ext, Option.getD] at hF
  repeat with_reducible first | refine wp_seq ?_ | refine nThen ?_ | refine nBlk ?_ | refine wp_skip ?_ | refine wp_block ?_ | refine wp_exit ?_ | refine xThen ?_ | refine xHere ?_ | refine xFar (by decide) ?_ | refine wp_ret ?_ | refine rThen ?_ | refine rBlk ?_
  refine cond_ty hF rfl (fun h0 => ?_) (fun h1 => ?_)
  · have h0 : A = none := by cases A <;> simp at h0 ⊢
    have hl : L = [] := List.eq_nil_of_length_eq_zero (hA h0).1
    subst hl
    repeat with_reducible first | refine wp_seq ?_ | refine nThen ?_ | refine nBlk ?_ | refine wp_skip ?_ | refine wp_block ?_ | refine wp_exit ?_ | refine xThen ?_ | refine xHere ?_ | refine xFar (by decide) ?_ | refine wp_ret ?_ | refine rThen ?_ | refine rBlk ?_
    refine' reg_all hF ?_ mixed (by kernel_rfl) ?_
    rotate_left
    · repeat (first
          | exact Line.nil
          | (refine' Line.cons rfl (.no rfl rfl rfl rfl rfl rfl) ?_; rotate_left)
          | ((first | refine' Line.cons rfl (.run rfl rfl ?_) ?_ | refine' Line.cons rfl (.yes rfl rfl rfl rfl ?_) ?_)
             any_goals (first | exact cMove rfl rfl | exact cAssign rfl rfl | exact cPickT rfl rfl rfl | exact cPickF rfl rfl rfl | exact cNot rfl rfl | exact cLss rfl rfl rfl | exact cLeq rfl rfl rfl | exact cGtr rfl rfl rfl | exact cGeq rfl rfl rfl | exact cEql rfl rfl rfl | exact cNeq rfl rfl rfl | exact cExtract rfl rfl rfl)
             rotate_left))
    intro a w3 hF hb hN
    have hBs := hB.size
    replace hB := hB.trans (hb.mono hB.size)
    dsimp only [ext, Option.getD] at hF
    repeat with_reducible first | refine wp_seq ?_ | refine nThen ?_ | refine nBlk ?_ | refine wp_skip ?_ | refine wp_block ?_ | refine wp_exit ?_ | refine xThen ?_ | refine xHere ?_ | refine xFar (by decide) ?_ | refine wp_ret ?_ | refine rThen ?_ | refine rBlk ?_
    refine ret1 hF rfl rfl fun z hz => ?_
    have hz : z = .slice none 0 0 := hz
    subst hz
    exact ⟨_, rfl, ⟨[], Seg.nil _ _ _, by simp⟩, hB⟩
  · repeat with_reducible first | refine wp_seq ?_ | refine nThen ?_ | refine nBlk ?_ | refine wp_skip ?_ | refine wp_block ?_ | refine wp_exit ?_ | refine xThen ?_ | refine xHere ?_ | refine xFar (by decide) ?_ | refine wp_ret ?_ | refine rThen ?_ | refine rBlk ?_
    refine' region_ty 2 mixed (by kernel_rfl) hF ?_ ?_
    rotate_left
    · simp only [List.take_succ_cons, List.take_zero]
      repeat (first
          | exact Line.nil
          | (refine' Line.cons rfl (.no rfl rfl rfl rfl rfl rfl) ?_; rotate_left)
          | ((first | refine' Line.cons rfl (.run rfl rfl ?_) ?_ | refine' Line.cons rfl (.yes rfl rfl rfl rfl ?_) ?_)
             any_goals (first | exact cBuild0 rfl Try.underlying24 infoS | exact cMove rfl rfl | exact cAssign rfl rfl | exact cPickT rfl rfl rfl | exact cPickF rfl rfl rfl | exact cNot rfl rfl | exact cLss rfl rfl rfl | exact cLeq rfl rfl rfl | exact cGtr rfl rfl rfl | exact cGeq rfl rfl rfl | exact cEql rfl rfl rfl | exact cNeq rfl rfl rfl | exact cExtract rfl rfl rfl)
             rotate_left))
    intro a w3 hF hb hN
    have hBs := hB.size
    replace hB := hB.trans (hb.mono hB.size)
    simp only [List.take_succ_cons, List.take_zero, List.drop_succ_cons, List.drop_zero] at hF hN ⊢
    dsimp only [ext, Option.getD] at hF
    obtain ⟨u, ⟨S, hseg, hS⟩, hF⟩ := hF.open (s := 5) rfl
    refine tlAppend (Δ := []) hF rfl rfl rfl rfl Try.underlying24 infoS zero32_size rfl hseg (.l (v := .slice A L.length c) rfl ((Ty.sums 34 L).below hv hB)) sl_news (flat_len _) flat_one' (by simp [maxLen]; omega) (by simp; omega) hF.nil rfl ?_
    intro a w4 u' S' hF hseg' hk2 hS'
    have hbS : ∀ y ∈ S', w.heap.size ≤ y := own_next hB (fun y hy => Nat.le_trans hBs (hS y hy)) hS'
    replace hB := below_own hB hk2 (fun y hy => Nat.le_trans hBs (hS y hy))
    refine' tlOp hF rfl rfl rfl ?_ ?_
    rotate_left
    · first | exact cMove rfl rfl | exact cAssign rfl rfl | exact cPickT rfl rfl rfl | exact cPickF rfl rfl rfl | exact cNot rfl rfl | exact cLss rfl rfl rfl | exact cLeq rfl rfl rfl | exact cGtr rfl rfl rfl | exact cGeq rfl rfl rfl | exact cEql rfl rfl rfl | exact cNeq rfl rfl rfl | exact cExtract rfl rfl rfl
    intro a w5 hF hb
    have hBs := hB.size
    replace hB := hB.trans (hb.mono hB.size)
    try (refine wpList_nil ?_)
    repeat with_reducible first | refine wp_seq ?_ | refine nThen ?_ | refine nBlk ?_ | refine wp_skip ?_ | refine wp_block ?_ | refine wp_exit ?_ | refine xThen ?_ | refine xHere ?_ | refine xFar (by decide) ?_ | refine wp_ret ?_ | refine rThen ?_ | refine rBlk ?_
    refine ret1 hF rfl rfl fun z hz => ?_
    have hz : z = u' := hz
    subst hz
    rw [Nat.zero_add, List.nil_append] at hseg'
    exact ⟨_, rfl, ⟨S', hseg'.below hb, hbS⟩, hB⟩
theorem zeroS_one : ∀ u ∈ (Value.agg (u8s (List.replicate 32 0))).cells.toList, u.oneCell' = true := by
  intro u hu
  have h : u ∈ (u8s (List.replicate 32 0)).toList := hu
  rw [u8s_list] at h
  obtain ⟨b, _, rfl⟩ := List.mem_map.1 h
  rfl
set_option maxRecDepth 100000 in
/-- Grow of nothing: a row of no element, with room. -/
theorem grow_ty (k : Nat) (hk : k ≤ 1000000) : FnSeg2 Try.prog 106 (Ty.ex (.slice none 0 0)) (Ty.ex (.int .i64 (k : Int))) 34 32 0 [] := by
  refine ⟨fun args w => by kernel_rfl, fun w v u hv hu => ?_⟩
  refine enter_ty 27 [Ty.ex (.slice none 0 0), Ty.ex (.int .i64 (k : Int))] Try.func106 rfl (by kernel_rfl) ⟨hv, hu, trivial⟩ fun a hF => ?_
  have hB := Below.refl w.heap.size w
  repeat with_reducible first | refine wp_seq ?_ | refine nThen ?_ | refine nBlk ?_ | refine wp_skip ?_ | refine wp_block ?_ | refine wp_exit ?_ | refine xThen ?_ | refine xHere ?_ | refine xFar (by decide) ?_ | refine wp_ret ?_ | refine rThen ?_ | refine rBlk ?_
  refine' reg_all hF ?_ mixed (by kernel_rfl) ?_
  rotate_left
  · repeat (first
        | exact Line.nil
        | (refine' Line.cons rfl (.no rfl rfl rfl rfl rfl rfl) ?_; rotate_left)
        | ((first | refine' Line.cons rfl (.run rfl rfl ?_) ?_ | refine' Line.cons rfl (.yes rfl rfl rfl rfl ?_) ?_)
           any_goals (first | exact cMove rfl rfl | exact cAssign rfl rfl | exact cPickT rfl rfl rfl | exact cPickF rfl rfl rfl | exact cNot rfl rfl | exact cLss rfl rfl rfl | exact cLeq rfl rfl rfl | exact cGtr rfl rfl rfl | exact cGeq rfl rfl rfl | exact cEql rfl rfl rfl | exact cNeq rfl rfl rfl | exact cExtract rfl rfl rfl)
           rotate_left))
  intro a w1 hF hb hN
  have hBs := hB.size
  replace hB := hB.trans (hb.mono hB.size)
  dsimp only [ext, Option.getD] at hF
  repeat with_reducible first | refine wp_seq ?_ | refine nThen ?_ | refine nBlk ?_ | refine wp_skip ?_ | refine wp_block ?_ | refine wp_exit ?_ | refine xThen ?_ | refine xHere ?_ | refine xFar (by decide) ?_ | refine wp_ret ?_ | refine rThen ?_ | refine rBlk ?_
  refine' reg_all hF ?_ mixed (by kernel_rfl) ?_
  rotate_left
  · repeat (first
        | exact Line.nil
        | (refine' Line.cons rfl (.no rfl rfl rfl rfl rfl rfl) ?_; rotate_left)
        | ((first | refine' Line.cons rfl (.run rfl rfl ?_) ?_ | refine' Line.cons rfl (.yes rfl rfl rfl rfl ?_) ?_)
           any_goals (first | exact cMove rfl rfl | exact cAssign rfl rfl | exact cPickT rfl rfl rfl | exact cPickF rfl rfl rfl | exact cNot rfl rfl | exact cLss rfl rfl rfl | exact cLeq rfl rfl rfl | exact cGtr rfl rfl rfl | exact cGeq rfl rfl rfl | exact cEql rfl rfl rfl | exact cNeq rfl rfl rfl | exact cExtract rfl rfl rfl)
           rotate_left))
  intro a w2 hF hb hN
  have hBs := hB.size
  replace hB := hB.trans (hb.mono hB.size)
  dsimp only [ext, Option.getD] at hF
  repeat with_reducible first | refine wp_seq ?_ | refine nThen ?_ | refine nBlk ?_ | refine wp_skip ?_ | refine wp_block ?_ | refine wp_exit ?_ | refine xThen ?_ | refine xHere ?_ | refine xFar (by decide) ?_ | refine wp_ret ?_ | refine rThen ?_ | refine rBlk ?_
  refine cond_ty hF rfl (fun h0 => ?_) (fun h1 => ?_)
  · have := of_decide_eq_true h0; omega
  repeat with_reducible first | refine wp_seq ?_ | refine nThen ?_ | refine nBlk ?_ | refine wp_skip ?_ | refine wp_block ?_ | refine wp_exit ?_ | refine xThen ?_ | refine xHere ?_ | refine xFar (by decide) ?_ | refine wp_ret ?_ | refine rThen ?_ | refine rBlk ?_
  refine' reg_all hF ?_ mixed (by kernel_rfl) ?_
  rotate_left
  · repeat (first
        | exact Line.nil
        | (refine' Line.cons rfl (.no rfl rfl rfl rfl rfl rfl) ?_; rotate_left)
        | ((first | refine' Line.cons rfl (.run rfl rfl ?_) ?_ | refine' Line.cons rfl (.yes rfl rfl rfl rfl ?_) ?_)
           any_goals (first | exact cLenEx rfl rfl Try.underlying25 | exact cCapNil rfl rfl Try.underlying25 | exact cSub (r := 0) rfl rfl rfl (by omega) | exact cSub (r := (k : Int)) rfl rfl rfl (by omega) | exact cMove rfl rfl | exact cAssign rfl rfl | exact cPickT rfl rfl rfl | exact cPickF rfl rfl rfl | exact cNot rfl rfl | exact cLss rfl rfl rfl | exact cLeq rfl rfl rfl | exact cGtr rfl rfl rfl | exact cGeq rfl rfl rfl | exact cEql rfl rfl rfl | exact cNeq rfl rfl rfl | exact cExtract rfl rfl rfl)
           rotate_left))
  intro a w3 hF hb hN
  have hBs := hB.size
  replace hB := hB.trans (hb.mono hB.size)
  dsimp only [ext, Option.getD] at hF
  repeat with_reducible first | refine wp_seq ?_ | refine nThen ?_ | refine nBlk ?_ | refine wp_skip ?_ | refine wp_block ?_ | refine wp_exit ?_ | refine xThen ?_ | refine xHere ?_ | refine xFar (by decide) ?_ | refine wp_ret ?_ | refine rThen ?_ | refine rBlk ?_
  refine' reg_all hF ?_ mixed (by kernel_rfl) ?_
  rotate_left
  · repeat (first
        | exact Line.nil
        | (refine' Line.cons rfl (.no rfl rfl rfl rfl rfl rfl) ?_; rotate_left)
        | ((first | refine' Line.cons rfl (.run rfl rfl ?_) ?_ | refine' Line.cons rfl (.yes rfl rfl rfl rfl ?_) ?_)
           any_goals (first | exact cMove rfl rfl | exact cAssign rfl rfl | exact cPickT rfl rfl rfl | exact cPickF rfl rfl rfl | exact cNot rfl rfl | exact cLss rfl rfl rfl | exact cLeq rfl rfl rfl | exact cGtr rfl rfl rfl | exact cGeq rfl rfl rfl | exact cEql rfl rfl rfl | exact cNeq rfl rfl rfl | exact cExtract rfl rfl rfl)
           rotate_left))
  intro a w4 hF hb hN
  have hBs := hB.size
  replace hB := hB.trans (hb.mono hB.size)
  dsimp only [ext, Option.getD] at hF
  repeat with_reducible first | refine wp_seq ?_ | refine nThen ?_ | refine nBlk ?_ | refine wp_skip ?_ | refine wp_block ?_ | refine wp_exit ?_ | refine xThen ?_ | refine xHere ?_ | refine xFar (by decide) ?_ | refine wp_ret ?_ | refine rThen ?_ | refine rBlk ?_
  have h4 := hB.size
  refine cond_ty hF rfl (fun h0 => ?_) (fun h1 => ?_)
  · have h0 := of_decide_eq_true h0
    repeat with_reducible first | refine wp_seq ?_ | refine nThen ?_ | refine nBlk ?_ | refine wp_skip ?_ | refine wp_block ?_ | refine wp_exit ?_ | refine xThen ?_ | refine xHere ?_ | refine xFar (by decide) ?_ | refine wp_ret ?_ | refine rThen ?_ | refine rBlk ?_
    refine' reg_all hF ?_ mixed (by kernel_rfl) ?_
    rotate_left
    · repeat (first
          | exact Line.nil
          | (refine' Line.cons rfl (.no rfl rfl rfl rfl rfl rfl) ?_; rotate_left)
          | ((first | refine' Line.cons rfl (.run rfl rfl ?_) ?_ | refine' Line.cons rfl (.yes rfl rfl rfl rfl ?_) ?_)
             any_goals (first | exact cLenEx rfl rfl Try.underlying25 | exact cCapNil rfl rfl Try.underlying25 | exact cSliceNil rfl rfl rfl Try.underlying25 sizeS | exact cAppendMake rfl rfl rfl Try.underlying25 Try.underlying3 infoS zero32_size (by omega) (by simp [maxLen]; omega) (by omega) | exact cRoomHi rfl rfl rfl Try.underlying25 sizeS | exact cMove rfl rfl | exact cAssign rfl rfl | exact cPickT rfl rfl rfl | exact cPickF rfl rfl rfl | exact cNot rfl rfl | exact cLss rfl rfl rfl | exact cLeq rfl rfl rfl | exact cGtr rfl rfl rfl | exact cGeq rfl rfl rfl | exact cEql rfl rfl rfl | exact cNeq rfl rfl rfl | exact cExtract rfl rfl rfl)
             rotate_left))
    intro a w5 hF hb hN
    have hBs := hB.size
    replace hB := hB.trans (hb.mono hB.size)
    dsimp only [ext, Option.getD] at hF
    repeat with_reducible first | refine wp_seq ?_ | refine nThen ?_ | refine nBlk ?_ | refine wp_skip ?_ | refine wp_block ?_ | refine wp_exit ?_ | refine xThen ?_ | refine xHere ?_ | refine xFar (by decide) ?_ | refine wp_ret ?_ | refine rThen ?_ | refine rBlk ?_
    refine' reg_all hF ?_ mixed (by kernel_rfl) ?_
    rotate_left
    · repeat (first
          | exact Line.nil
          | (refine' Line.cons rfl (.no rfl rfl rfl rfl rfl rfl) ?_; rotate_left)
          | ((first | refine' Line.cons rfl (.run rfl rfl ?_) ?_ | refine' Line.cons rfl (.yes rfl rfl rfl rfl ?_) ?_)
             any_goals (first | exact cMove rfl rfl | exact cAssign rfl rfl | exact cPickT rfl rfl rfl | exact cPickF rfl rfl rfl | exact cNot rfl rfl | exact cLss rfl rfl rfl | exact cLeq rfl rfl rfl | exact cGtr rfl rfl rfl | exact cGeq rfl rfl rfl | exact cEql rfl rfl rfl | exact cNeq rfl rfl rfl | exact cExtract rfl rfl rfl)
             rotate_left))
    intro a w6 hF hb hN
    have hBs := hB.size
    replace hB := hB.trans (hb.mono hB.size)
    dsimp only [ext, Option.getD] at hF
    repeat with_reducible first | refine wp_seq ?_ | refine nThen ?_ | refine nBlk ?_ | refine wp_skip ?_ | refine wp_block ?_ | refine wp_exit ?_ | refine xThen ?_ | refine xHere ?_ | refine xFar (by decide) ?_ | refine wp_ret ?_ | refine rThen ?_ | refine rBlk ?_
    refine ret1 hF rfl rfl fun z hz => ?_
    exact ⟨z, rfl, seg_old h4 _ _ hz, hB⟩
  · repeat with_reducible first | refine wp_seq ?_ | refine nThen ?_ | refine nBlk ?_ | refine wp_skip ?_ | refine wp_block ?_ | refine wp_exit ?_ | refine xThen ?_ | refine xHere ?_ | refine xFar (by decide) ?_ | refine wp_ret ?_ | refine rThen ?_ | refine rBlk ?_
    refine' reg_all hF ?_ mixed (by kernel_rfl) ?_
    rotate_left
    · repeat (first
          | exact Line.nil
          | (refine' Line.cons rfl (.no rfl rfl rfl rfl rfl rfl) ?_; rotate_left)
          | ((first | refine' Line.cons rfl (.run rfl rfl ?_) ?_ | refine' Line.cons rfl (.yes rfl rfl rfl rfl ?_) ?_)
             any_goals (first | exact cMove rfl rfl | exact cAssign rfl rfl | exact cPickT rfl rfl rfl | exact cPickF rfl rfl rfl | exact cNot rfl rfl | exact cLss rfl rfl rfl | exact cLeq rfl rfl rfl | exact cGtr rfl rfl rfl | exact cGeq rfl rfl rfl | exact cEql rfl rfl rfl | exact cNeq rfl rfl rfl | exact cExtract rfl rfl rfl)
             rotate_left))
    intro a w6 hF hb hN
    have hBs := hB.size
    replace hB := hB.trans (hb.mono hB.size)
    dsimp only [ext, Option.getD] at hF
    repeat with_reducible first | refine wp_seq ?_ | refine nThen ?_ | refine nBlk ?_ | refine wp_skip ?_ | refine wp_block ?_ | refine wp_exit ?_ | refine xThen ?_ | refine xHere ?_ | refine xFar (by decide) ?_ | refine wp_ret ?_ | refine rThen ?_ | refine rBlk ?_
    refine ret1 hF rfl rfl fun z hz => ?_
    have hz : z = .slice none 0 0 := hz
    subst hz
    exact ⟨_, rfl, ⟨[], Seg.nil _ _ _, by simp⟩, hB⟩

theorem sizeL1 : (Try.prog.info? 25).map (·.size) = some 1 := by kernel_rfl
theorem take_flat_len (Ls : List (List Sm)) {k : Nat} (h : k < Ls.length) : (Ls.take (k + 1)).flatten = (Ls.take k).flatten ++ Ls[k] := by
  rw [List.take_succ_eq_append_getElem h, List.flatten_append]
  simp
theorem take_flat_le (Ls : List (List Sm)) (k : Nat) : (Ls.take k).flatten.length ≤ Ls.flatten.length := by
  have h : Ls.flatten = (Ls.take k).flatten ++ (Ls.drop k).flatten := by rw [← List.flatten_append, List.take_append_drop]
  rw [h, List.length_append]
  omega
set_option maxRecDepth 100000 in
theorem concat_ty (Ls : List (List Sm)) (hL : Ls.flatten.length ≤ 1000000) (hn : Ls.length ≤ 1000) : FnSeg1 Try.prog 72 (Ty.slT 25 Ls.length (Ls.map (Ty.sums 34))) 34 32 Ls.flatten.length (flat Ls.flatten) := by
  refine ⟨fun args w => by kernel_rfl, fun w v hv => ?_⟩
  refine enter_ty 36 [Ty.ex v] Try.func72 rfl (by kernel_rfl) ⟨rfl, trivial⟩ fun a hF => ?_
  have hB := Below.refl w.heap.size w
  repeat with_reducible first | refine wp_seq ?_ | refine nThen ?_ | refine nBlk ?_ | refine wp_skip ?_ | refine wp_block ?_ | refine wp_exit ?_ | refine xThen ?_ | refine xHere ?_ | refine xFar (by decide) ?_ | refine wp_ret ?_ | refine rThen ?_ | refine rBlk ?_
  refine' reg_all hF ?_ mixed (by kernel_rfl) ?_
  rotate_left
  · repeat (first
        | exact Line.nil
        | (refine' Line.cons rfl (.no rfl rfl rfl rfl rfl rfl) ?_; rotate_left)
        | ((first | refine' Line.cons rfl (.run rfl rfl ?_) ?_ | refine' Line.cons rfl (.yes rfl rfl rfl rfl ?_) ?_)
           any_goals (first | exact cMove rfl rfl | exact cAssign rfl rfl | exact cPickT rfl rfl rfl | exact cPickF rfl rfl rfl | exact cNot rfl rfl | exact cLss rfl rfl rfl | exact cLeq rfl rfl rfl | exact cGtr rfl rfl rfl | exact cGeq rfl rfl rfl | exact cEql rfl rfl rfl | exact cNeq rfl rfl rfl | exact cExtract rfl rfl rfl)
           rotate_left))
  intro a w1 hF hb hN
  have hBs := hB.size
  replace hB := hB.trans (hb.mono hB.size)
  dsimp only [ext, Option.getD] at hF
  repeat with_reducible first | refine wp_seq ?_ | refine nThen ?_ | refine nBlk ?_ | refine wp_skip ?_ | refine wp_block ?_ | refine wp_exit ?_ | refine xThen ?_ | refine xHere ?_ | refine xFar (by decide) ?_ | refine wp_ret ?_ | refine rThen ?_ | refine rBlk ?_
  refine' reg_all hF ?_ mixed (by kernel_rfl) ?_
  rotate_left
  · repeat (first
        | exact Line.nil
        | (refine' Line.cons rfl (.no rfl rfl rfl rfl rfl rfl) ?_; rotate_left)
        | ((first | refine' Line.cons rfl (.run rfl rfl ?_) ?_ | refine' Line.cons rfl (.yes rfl rfl rfl rfl ?_) ?_)
           any_goals (first | exact cMove rfl rfl | exact cAssign rfl rfl | exact cPickT rfl rfl rfl | exact cPickF rfl rfl rfl | exact cNot rfl rfl | exact cLss rfl rfl rfl | exact cLeq rfl rfl rfl | exact cGtr rfl rfl rfl | exact cGeq rfl rfl rfl | exact cEql rfl rfl rfl | exact cNeq rfl rfl rfl | exact cExtract rfl rfl rfl)
           rotate_left))
  intro a w2 hF hb hN
  have hBs := hB.size
  replace hB := hB.trans (hb.mono hB.size)
  dsimp only [ext, Option.getD] at hF
  repeat with_reducible first | refine wp_seq ?_ | refine nThen ?_ | refine nBlk ?_ | refine wp_skip ?_ | refine wp_block ?_ | refine wp_exit ?_ | refine xThen ?_ | refine xHere ?_ | refine xFar (by decide) ?_ | refine wp_ret ?_ | refine rThen ?_ | refine rBlk ?_
  refine' reg_all hF ?_ mixed (by kernel_rfl) ?_
  rotate_left
  · repeat (first
        | exact Line.nil
        | (refine' Line.cons rfl (.no rfl rfl rfl rfl rfl rfl) ?_; rotate_left)
        | ((first | refine' Line.cons rfl (.run rfl rfl ?_) ?_ | refine' Line.cons rfl (.yes rfl rfl rfl rfl ?_) ?_)
           any_goals (first | exact cLenH rfl (.l rfl ((Ty.slT 25 Ls.length (Ls.map (Ty.sums 34))).below hv hB)) (Ty.slT_isSl _ _ _) Try.underlying137 | exact cMove rfl rfl | exact cAssign rfl rfl | exact cPickT rfl rfl rfl | exact cPickF rfl rfl rfl | exact cNot rfl rfl | exact cLss rfl rfl rfl | exact cLeq rfl rfl rfl | exact cGtr rfl rfl rfl | exact cGeq rfl rfl rfl | exact cEql rfl rfl rfl | exact cNeq rfl rfl rfl | exact cExtract rfl rfl rfl)
           rotate_left))
  intro a w3 hF hb hN
  have hBs := hB.size
  replace hB := hB.trans (hb.mono hB.size)
  dsimp only [ext, Option.getD] at hF
  repeat with_reducible first | refine wp_seq ?_ | refine nThen ?_ | refine nBlk ?_ | refine wp_skip ?_ | refine wp_block ?_ | refine wp_exit ?_ | refine xThen ?_ | refine xHere ?_ | refine xFar (by decide) ?_ | refine wp_ret ?_ | refine rThen ?_ | refine rBlk ?_
  refine loop_ty (fun m a wr => ∃ k : Nat, k + m = Ls.length ∧ Fr 36 [(0, Ty.ex v), (9, Ty.ex v), (10, Ty.ex (.int .i64 (Ls.length : Int))), (11, Ty.ex (.int .i64 (k : Int))), (3, Ty.ex (.int .i64 ((Ls.take k).flatten.length : Int)))] a wr ∧ Below w.heap.size w wr) Ls.length ?_ ?_
  · exact ⟨0, by omega, hF.keep [0, 9, 10, 11, 3], hB⟩
  clear hF hB
  rintro m a wr ⟨k, hk, hF, hB⟩
  repeat with_reducible first | refine wp_seq ?_ | refine nThen ?_ | refine nBlk ?_ | refine wp_skip ?_ | refine wp_block ?_ | refine wp_exit ?_ | refine xThen ?_ | refine xHere ?_ | refine xFar (by decide) ?_ | refine wp_ret ?_ | refine rThen ?_ | refine rBlk ?_
  refine' reg_all hF ?_ mixed (by kernel_rfl) ?_
  rotate_left
  · repeat (first
        | exact Line.nil
        | (refine' Line.cons rfl (.no rfl rfl rfl rfl rfl rfl) ?_; rotate_left)
        | ((first | refine' Line.cons rfl (.run rfl rfl ?_) ?_ | refine' Line.cons rfl (.yes rfl rfl rfl rfl ?_) ?_)
           any_goals (first | exact cMove rfl rfl | exact cAssign rfl rfl | exact cPickT rfl rfl rfl | exact cPickF rfl rfl rfl | exact cNot rfl rfl | exact cLss rfl rfl rfl | exact cLeq rfl rfl rfl | exact cGtr rfl rfl rfl | exact cGeq rfl rfl rfl | exact cEql rfl rfl rfl | exact cNeq rfl rfl rfl | exact cExtract rfl rfl rfl)
           rotate_left))
  intro a w4 hF hb hN
  have hBs := hB.size
  replace hB := hB.trans (hb.mono hB.size)
  dsimp only [ext, Option.getD] at hF
  repeat with_reducible first | refine wp_seq ?_ | refine nThen ?_ | refine nBlk ?_ | refine wp_skip ?_ | refine wp_block ?_ | refine wp_exit ?_ | refine xThen ?_ | refine xHere ?_ | refine xFar (by decide) ?_ | refine wp_ret ?_ | refine rThen ?_ | refine rBlk ?_
  refine cond_ty hF rfl (fun hlt => ?_) (fun hge => ?_)
  · have hlt : k < Ls.length := by simpa using hlt
    have hdrop : (Ls.map (Ty.sums 34)).drop k = Ty.sums 34 Ls[k] :: (Ls.map (Ty.sums 34)).drop (k + 1) := by
      rw [List.drop_eq_getElem_cons (by simpa using hlt)]
      simp
    have htk := take_flat_len Ls hlt
    have htl := take_flat_le Ls (k + 1)
    have htn : (Ls.take (k + 1)).flatten.length = (Ls.take k).flatten.length + Ls[k].length := by rw [htk, List.length_append]
    repeat with_reducible first | refine wp_seq ?_ | refine nThen ?_ | refine nBlk ?_ | refine wp_skip ?_ | refine wp_block ?_ | refine wp_exit ?_ | refine xThen ?_ | refine xHere ?_ | refine xFar (by decide) ?_ | refine wp_ret ?_ | refine rThen ?_ | refine rBlk ?_
    refine' reg_all hF ?_ mixed (by kernel_rfl) ?_
    rotate_left
    · repeat (first
          | exact Line.nil
          | (refine' Line.cons rfl (.no rfl rfl rfl rfl rfl rfl) ?_; rotate_left)
          | ((first | refine' Line.cons rfl (.run rfl rfl ?_) ?_ | refine' Line.cons rfl (.yes rfl rfl rfl rfl ?_) ?_)
             any_goals (first | exact cIndexT (k := k) rfl (.l rfl ((Ty.slT 25 Ls.length (Ls.map (Ty.sums 34))).below hv hB)) rfl Try.underlying137 sizeL1 hlt (by simpa using hlt) | exact cLoadT rfl (.t (by rw [← hdrop]; rfl)) Try.underlying25 rfl | exact cMove rfl rfl | exact cAssign rfl rfl | exact cPickT rfl rfl rfl | exact cPickF rfl rfl rfl | exact cNot rfl rfl | exact cLss rfl rfl rfl | exact cLeq rfl rfl rfl | exact cGtr rfl rfl rfl | exact cGeq rfl rfl rfl | exact cEql rfl rfl rfl | exact cNeq rfl rfl rfl | exact cExtract rfl rfl rfl)
             rotate_left))
    intro a w5 hF hb hN
    have hBs := hB.size
    replace hB := hB.trans (hb.mono hB.size)
    dsimp only [ext, Option.getD] at hF
    repeat with_reducible first | refine wp_seq ?_ | refine nThen ?_ | refine nBlk ?_ | refine wp_skip ?_ | refine wp_block ?_ | refine wp_exit ?_ | refine xThen ?_ | refine xHere ?_ | refine xFar (by decide) ?_ | refine wp_ret ?_ | refine rThen ?_ | refine rBlk ?_
    refine' reg_all hF ?_ mixed (by kernel_rfl) ?_
    rotate_left
    · repeat (first
          | exact Line.nil
          | (refine' Line.cons rfl (.no rfl rfl rfl rfl rfl rfl) ?_; rotate_left)
          | ((first | refine' Line.cons rfl (.run rfl rfl ?_) ?_ | refine' Line.cons rfl (.yes rfl rfl rfl rfl ?_) ?_)
             any_goals (first | exact cLenH rfl (.t rfl) (Ty.sl_isSl _ _ _) Try.underlying25 | exact cAdd (r := ((Ls.take (k + 1)).flatten.length : Int)) rfl rfl rfl (by omega) | exact cMove rfl rfl | exact cAssign rfl rfl | exact cPickT rfl rfl rfl | exact cPickF rfl rfl rfl | exact cNot rfl rfl | exact cLss rfl rfl rfl | exact cLeq rfl rfl rfl | exact cGtr rfl rfl rfl | exact cGeq rfl rfl rfl | exact cEql rfl rfl rfl | exact cNeq rfl rfl rfl | exact cExtract rfl rfl rfl)
             rotate_left))
    intro a w6 hF hb hN
    have hBs := hB.size
    replace hB := hB.trans (hb.mono hB.size)
    dsimp only [ext, Option.getD] at hF
    repeat with_reducible first | refine wp_seq ?_ | refine nThen ?_ | refine nBlk ?_ | refine wp_skip ?_ | refine wp_block ?_ | refine wp_exit ?_ | refine xThen ?_ | refine xHere ?_ | refine xFar (by decide) ?_ | refine wp_ret ?_ | refine rThen ?_ | refine rBlk ?_
    refine' reg_all hF ?_ mixed (by kernel_rfl) ?_
    rotate_left
    · repeat (first
          | exact Line.nil
          | (refine' Line.cons rfl (.no rfl rfl rfl rfl rfl rfl) ?_; rotate_left)
          | ((first | refine' Line.cons rfl (.run rfl rfl ?_) ?_ | refine' Line.cons rfl (.yes rfl rfl rfl rfl ?_) ?_)
             any_goals (first | exact cMove rfl rfl | exact cAssign rfl rfl | exact cPickT rfl rfl rfl | exact cPickF rfl rfl rfl | exact cNot rfl rfl | exact cLss rfl rfl rfl | exact cLeq rfl rfl rfl | exact cGtr rfl rfl rfl | exact cGeq rfl rfl rfl | exact cEql rfl rfl rfl | exact cNeq rfl rfl rfl | exact cExtract rfl rfl rfl)
             rotate_left))
    intro a w7 hF hb hN
    have hBs := hB.size
    replace hB := hB.trans (hb.mono hB.size)
    dsimp only [ext, Option.getD] at hF
    repeat with_reducible first | refine wp_seq ?_ | refine nThen ?_ | refine nBlk ?_ | refine wp_skip ?_ | refine wp_block ?_ | refine wp_exit ?_ | refine xThen ?_ | refine xHere ?_ | refine xFar (by decide) ?_ | refine wp_ret ?_ | refine rThen ?_ | refine rBlk ?_
    refine cond_ty hF rfl (fun h0 => ?_) (fun h1 => ?_)
    · have := of_decide_eq_true h0; omega
    repeat with_reducible first | refine wp_seq ?_ | refine nThen ?_ | refine nBlk ?_ | refine wp_skip ?_ | refine wp_block ?_ | refine wp_exit ?_ | refine xThen ?_ | refine xHere ?_ | refine xFar (by decide) ?_ | refine wp_ret ?_ | refine rThen ?_ | refine rBlk ?_
    refine' reg_all hF ?_ mixed (by kernel_rfl) ?_
    rotate_left
    · repeat (first
          | exact Line.nil
          | (refine' Line.cons rfl (.no rfl rfl rfl rfl rfl rfl) ?_; rotate_left)
          | ((first | refine' Line.cons rfl (.run rfl rfl ?_) ?_ | refine' Line.cons rfl (.yes rfl rfl rfl rfl ?_) ?_)
             any_goals (first | exact cAdd (r := ((k + 1 : Nat) : Int)) rfl rfl rfl (by omega) | exact cMove rfl rfl | exact cAssign rfl rfl | exact cPickT rfl rfl rfl | exact cPickF rfl rfl rfl | exact cNot rfl rfl | exact cLss rfl rfl rfl | exact cLeq rfl rfl rfl | exact cGtr rfl rfl rfl | exact cGeq rfl rfl rfl | exact cEql rfl rfl rfl | exact cNeq rfl rfl rfl | exact cExtract rfl rfl rfl)
             rotate_left))
    intro a w8 hF hb hN
    have hBs := hB.size
    replace hB := hB.trans (hb.mono hB.size)
    dsimp only [ext, Option.getD] at hF
    repeat with_reducible first | refine wp_seq ?_ | refine nThen ?_ | refine nBlk ?_ | refine wp_skip ?_ | refine wp_block ?_ | refine wp_exit ?_ | refine xThen ?_ | refine xHere ?_ | refine xFar (by decide) ?_ | refine wp_ret ?_ | refine rThen ?_ | refine rBlk ?_
    exact ⟨m - 1, by omega, k + 1, by omega, hF.keep [0, 9, 10, 11, 3], hB⟩
  have hge : ¬ k < Ls.length := by simpa using hge
  obtain rfl : k = Ls.length := by omega
  rw [List.take_length] at hF
  repeat with_reducible first | refine wp_seq ?_ | refine nThen ?_ | refine nBlk ?_ | refine wp_skip ?_ | refine wp_block ?_ | refine wp_exit ?_ | refine xThen ?_ | refine xHere ?_ | refine xFar (by decide) ?_ | refine wp_ret ?_ | refine rThen ?_ | refine rBlk ?_
  have hBs0 := hB.size
  refine' reg_all hF ?_ mixed (by kernel_rfl) ?_
  rotate_left
  · repeat (first
        | exact Line.nil
        | (refine' Line.cons rfl (.no rfl rfl rfl rfl rfl rfl) ?_; rotate_left)
        | ((first | refine' Line.cons rfl (.run rfl rfl ?_) ?_ | refine' Line.cons rfl (.yes rfl rfl rfl rfl ?_) ?_)
           any_goals (first | exact cCallS2 rfl (.t rfl) (.t rfl) (grow_ty Ls.flatten.length hL) | exact cMove rfl rfl | exact cAssign rfl rfl | exact cPickT rfl rfl rfl | exact cPickF rfl rfl rfl | exact cNot rfl rfl | exact cLss rfl rfl rfl | exact cLeq rfl rfl rfl | exact cGtr rfl rfl rfl | exact cGeq rfl rfl rfl | exact cEql rfl rfl rfl | exact cNeq rfl rfl rfl | exact cExtract rfl rfl rfl)
           rotate_left))
  intro a w5 hF hb hN
  have hBs := hB.size
  replace hB := hB.trans (hb.mono hB.size)
  dsimp only [ext, Option.getD] at hF
  repeat with_reducible first | refine wp_seq ?_ | refine nThen ?_ | refine nBlk ?_ | refine wp_skip ?_ | refine wp_block ?_ | refine wp_exit ?_ | refine xThen ?_ | refine xHere ?_ | refine xFar (by decide) ?_ | refine wp_ret ?_ | refine rThen ?_ | refine rBlk ?_
  refine' reg_all hF ?_ mixed (by kernel_rfl) ?_
  rotate_left
  · repeat (first
        | exact Line.nil
        | (refine' Line.cons rfl (.no rfl rfl rfl rfl rfl rfl) ?_; rotate_left)
        | ((first | refine' Line.cons rfl (.run rfl rfl ?_) ?_ | refine' Line.cons rfl (.yes rfl rfl rfl rfl ?_) ?_)
           any_goals (first | exact cLenH rfl (.l rfl ((Ty.slT 25 Ls.length (Ls.map (Ty.sums 34))).below hv hB)) (Ty.slT_isSl _ _ _) Try.underlying137 | exact cMove rfl rfl | exact cAssign rfl rfl | exact cPickT rfl rfl rfl | exact cPickF rfl rfl rfl | exact cNot rfl rfl | exact cLss rfl rfl rfl | exact cLeq rfl rfl rfl | exact cGtr rfl rfl rfl | exact cGeq rfl rfl rfl | exact cEql rfl rfl rfl | exact cNeq rfl rfl rfl | exact cExtract rfl rfl rfl)
           rotate_left))
  intro a w6 hF hb hN
  have hBs := hB.size
  replace hB := hB.trans (hb.mono hB.size)
  dsimp only [ext, Option.getD] at hF
  repeat with_reducible first | refine wp_seq ?_ | refine nThen ?_ | refine nBlk ?_ | refine wp_skip ?_ | refine wp_block ?_ | refine wp_exit ?_ | refine xThen ?_ | refine xHere ?_ | refine xFar (by decide) ?_ | refine wp_ret ?_ | refine rThen ?_ | refine rBlk ?_
  obtain ⟨u, ⟨S, hseg, hS⟩, hF⟩ := hF.open (s := 6) rfl
  refine loop_ty (fun m a wr => ∃ (k : Nat) (u : Value) (S : List Nat), k + m = Ls.length ∧ Fr 36 [(25, Ty.ex v), (26, Ty.ex (.int .i64 (Ls.length : Int))), (27, Ty.ex (.int .i64 (k : Int))), (6, Ty.ex u)] a wr ∧ Below w.heap.size w wr ∧ Seg wr 34 32 u (Ls.take k).flatten.length (flat (Ls.take k).flatten) S ∧ ∀ y ∈ S, w.heap.size ≤ y) Ls.length ?_ ?_
  · exact ⟨0, u, S, by omega, hF.keep [25, 26, 27, 6], hB, hseg, fun y hy => Nat.le_trans hBs0 (hS y hy)⟩
  clear hF hB hseg hS
  rintro m a wr ⟨k, u, S, hk, hF, hB, hseg, hS⟩
  repeat with_reducible first | refine wp_seq ?_ | refine nThen ?_ | refine nBlk ?_ | refine wp_skip ?_ | refine wp_block ?_ | refine wp_exit ?_ | refine xThen ?_ | refine xHere ?_ | refine xFar (by decide) ?_ | refine wp_ret ?_ | refine rThen ?_ | refine rBlk ?_
  refine' reg_all hF ?_ mixed (by kernel_rfl) ?_
  rotate_left
  · repeat (first
        | exact Line.nil
        | (refine' Line.cons rfl (.no rfl rfl rfl rfl rfl rfl) ?_; rotate_left)
        | ((first | refine' Line.cons rfl (.run rfl rfl ?_) ?_ | refine' Line.cons rfl (.yes rfl rfl rfl rfl ?_) ?_)
           any_goals (first | exact cMove rfl rfl | exact cAssign rfl rfl | exact cPickT rfl rfl rfl | exact cPickF rfl rfl rfl | exact cNot rfl rfl | exact cLss rfl rfl rfl | exact cLeq rfl rfl rfl | exact cGtr rfl rfl rfl | exact cGeq rfl rfl rfl | exact cEql rfl rfl rfl | exact cNeq rfl rfl rfl | exact cExtract rfl rfl rfl)
           rotate_left))
  intro a w7 hF hb hN
  have hBs := hB.size
  replace hB := hB.trans (hb.mono hB.size)
  dsimp only [ext, Option.getD] at hF
  repeat with_reducible first | refine wp_seq ?_ | refine nThen ?_ | refine nBlk ?_ | refine wp_skip ?_ | refine wp_block ?_ | refine wp_exit ?_ | refine xThen ?_ | refine xHere ?_ | refine xFar (by decide) ?_ | refine wp_ret ?_ | refine rThen ?_ | refine rBlk ?_
  replace hseg := hseg.below hb
  refine cond_ty hF rfl (fun hlt => ?_) (fun hge => ?_)
  · have hlt : k < Ls.length := by simpa using hlt
    have hdrop : (Ls.map (Ty.sums 34)).drop k = Ty.sums 34 Ls[k] :: (Ls.map (Ty.sums 34)).drop (k + 1) := by
      rw [List.drop_eq_getElem_cons (by simpa using hlt)]
      simp
    have htk := take_flat_len Ls hlt
    have htl := take_flat_le Ls (k + 1)
    have htn : (Ls.take (k + 1)).flatten.length = (Ls.take k).flatten.length + Ls[k].length := by rw [htk, List.length_append]
    repeat with_reducible first | refine wp_seq ?_ | refine nThen ?_ | refine nBlk ?_ | refine wp_skip ?_ | refine wp_block ?_ | refine wp_exit ?_ | refine xThen ?_ | refine xHere ?_ | refine xFar (by decide) ?_ | refine wp_ret ?_ | refine rThen ?_ | refine rBlk ?_
    refine' reg_all hF ?_ mixed (by kernel_rfl) ?_
    rotate_left
    · repeat (first
          | exact Line.nil
          | (refine' Line.cons rfl (.no rfl rfl rfl rfl rfl rfl) ?_; rotate_left)
          | ((first | refine' Line.cons rfl (.run rfl rfl ?_) ?_ | refine' Line.cons rfl (.yes rfl rfl rfl rfl ?_) ?_)
             any_goals (first | exact cIndexT (k := k) rfl (.l rfl ((Ty.slT 25 Ls.length (Ls.map (Ty.sums 34))).below hv hB)) rfl Try.underlying137 sizeL1 hlt (by simpa using hlt) | exact cLoadT rfl (.t (by rw [← hdrop]; rfl)) Try.underlying25 rfl | exact cMove rfl rfl | exact cAssign rfl rfl | exact cPickT rfl rfl rfl | exact cPickF rfl rfl rfl | exact cNot rfl rfl | exact cLss rfl rfl rfl | exact cLeq rfl rfl rfl | exact cGtr rfl rfl rfl | exact cGeq rfl rfl rfl | exact cEql rfl rfl rfl | exact cNeq rfl rfl rfl | exact cExtract rfl rfl rfl)
             rotate_left))
    intro a w8 hF hb hN
    have hBs := hB.size
    replace hB := hB.trans (hb.mono hB.size)
    dsimp only [ext, Option.getD] at hF
    repeat with_reducible first | refine wp_seq ?_ | refine nThen ?_ | refine nBlk ?_ | refine wp_skip ?_ | refine wp_block ?_ | refine wp_exit ?_ | refine xThen ?_ | refine xHere ?_ | refine xFar (by decide) ?_ | refine wp_ret ?_ | refine rThen ?_ | refine rBlk ?_
    replace hseg := hseg.below hb
    refine' region_ty 2 mixed (by kernel_rfl) hF ?_ ?_
    rotate_left
    · simp only [List.take_succ_cons, List.take_zero]
      repeat (first
          | exact Line.nil
          | (refine' Line.cons rfl (.no rfl rfl rfl rfl rfl rfl) ?_; rotate_left)
          | ((first | refine' Line.cons rfl (.run rfl rfl ?_) ?_ | refine' Line.cons rfl (.yes rfl rfl rfl rfl ?_) ?_)
             any_goals (first | exact cMove rfl rfl | exact cAssign rfl rfl | exact cPickT rfl rfl rfl | exact cPickF rfl rfl rfl | exact cNot rfl rfl | exact cLss rfl rfl rfl | exact cLeq rfl rfl rfl | exact cGtr rfl rfl rfl | exact cGeq rfl rfl rfl | exact cEql rfl rfl rfl | exact cNeq rfl rfl rfl | exact cExtract rfl rfl rfl)
             rotate_left))
    intro a w9 hF hb hN
    have hBs := hB.size
    replace hB := hB.trans (hb.mono hB.size)
    simp only [List.take_succ_cons, List.take_zero, List.drop_succ_cons, List.drop_zero] at hF hN ⊢
    dsimp only [ext, Option.getD] at hF
    replace hseg := hseg.below hb
    refine tlAppend (Δ := [(25, Ty.ex v), (26, Ty.ex (.int .i64 (Ls.length : Int))), (27, Ty.ex (.int .i64 (k : Int)))]) hF rfl rfl rfl rfl Try.underlying25 infoS zero32_size rfl hseg (.t rfl) sl_news (flat_len _) flat_one' (by unfold maxLen; omega) (by omega) (hF.keep [25, 26, 27]) rfl ?_
    intro a w10 u' S' hF hseg hk2 hS'
    replace hS' := own_next hB hS hS'
    replace hB := below_own hB hk2 hS
    refine' tlOp hF rfl rfl rfl ?_ ?_
    rotate_left
    · first | exact cMove rfl rfl | exact cAssign rfl rfl | exact cPickT rfl rfl rfl | exact cPickF rfl rfl rfl | exact cNot rfl rfl | exact cLss rfl rfl rfl | exact cLeq rfl rfl rfl | exact cGtr rfl rfl rfl | exact cGeq rfl rfl rfl | exact cEql rfl rfl rfl | exact cNeq rfl rfl rfl | exact cExtract rfl rfl rfl
    intro a w11 hF hb
    have hBs := hB.size
    replace hB := hB.trans (hb.mono hB.size)
    try (refine wpList_nil ?_)
    repeat with_reducible first | refine wp_seq ?_ | refine nThen ?_ | refine nBlk ?_ | refine wp_skip ?_ | refine wp_block ?_ | refine wp_exit ?_ | refine xThen ?_ | refine xHere ?_ | refine xFar (by decide) ?_ | refine wp_ret ?_ | refine rThen ?_ | refine rBlk ?_
    replace hseg := hseg.below hb
    refine' reg_all hF ?_ mixed (by kernel_rfl) ?_
    rotate_left
    · repeat (first
          | exact Line.nil
          | (refine' Line.cons rfl (.no rfl rfl rfl rfl rfl rfl) ?_; rotate_left)
          | ((first | refine' Line.cons rfl (.run rfl rfl ?_) ?_ | refine' Line.cons rfl (.yes rfl rfl rfl rfl ?_) ?_)
             any_goals (first | exact cAdd (r := ((k + 1 : Nat) : Int)) rfl rfl rfl (by omega) | exact cMove rfl rfl | exact cAssign rfl rfl | exact cPickT rfl rfl rfl | exact cPickF rfl rfl rfl | exact cNot rfl rfl | exact cLss rfl rfl rfl | exact cLeq rfl rfl rfl | exact cGtr rfl rfl rfl | exact cGeq rfl rfl rfl | exact cEql rfl rfl rfl | exact cNeq rfl rfl rfl | exact cExtract rfl rfl rfl)
             rotate_left))
    intro a w12 hF hb hN
    have hBs := hB.size
    replace hB := hB.trans (hb.mono hB.size)
    dsimp only [ext, Option.getD] at hF
    repeat with_reducible first | refine wp_seq ?_ | refine nThen ?_ | refine nBlk ?_ | refine wp_skip ?_ | refine wp_block ?_ | refine wp_exit ?_ | refine xThen ?_ | refine xHere ?_ | refine xFar (by decide) ?_ | refine wp_ret ?_ | refine rThen ?_ | refine rBlk ?_
    rw [← flat_append, ← htk, ← htn] at hseg
    exact ⟨m - 1, by omega, k + 1, u', S', by omega, hF.keep [25, 26, 27, 6], hB, hseg.below hb, hS'⟩
  have hge : ¬ k < Ls.length := by simpa using hge
  obtain rfl : k = Ls.length := by omega
  rw [List.take_length] at hseg
  repeat with_reducible first | refine wp_seq ?_ | refine nThen ?_ | refine nBlk ?_ | refine wp_skip ?_ | refine wp_block ?_ | refine wp_exit ?_ | refine xThen ?_ | refine xHere ?_ | refine xFar (by decide) ?_ | refine wp_ret ?_ | refine rThen ?_ | refine rBlk ?_
  refine' reg_all hF ?_ mixed (by kernel_rfl) ?_
  rotate_left
  · repeat (first
        | exact Line.nil
        | (refine' Line.cons rfl (.no rfl rfl rfl rfl rfl rfl) ?_; rotate_left)
        | ((first | refine' Line.cons rfl (.run rfl rfl ?_) ?_ | refine' Line.cons rfl (.yes rfl rfl rfl rfl ?_) ?_)
           any_goals (first | exact cMove rfl rfl | exact cAssign rfl rfl | exact cPickT rfl rfl rfl | exact cPickF rfl rfl rfl | exact cNot rfl rfl | exact cLss rfl rfl rfl | exact cLeq rfl rfl rfl | exact cGtr rfl rfl rfl | exact cGeq rfl rfl rfl | exact cEql rfl rfl rfl | exact cNeq rfl rfl rfl | exact cExtract rfl rfl rfl)
           rotate_left))
  intro a w8 hF hb hN
  have hBs := hB.size
  replace hB := hB.trans (hb.mono hB.size)
  dsimp only [ext, Option.getD] at hF
  repeat with_reducible first | refine wp_seq ?_ | refine nThen ?_ | refine nBlk ?_ | refine wp_skip ?_ | refine wp_block ?_ | refine wp_exit ?_ | refine xThen ?_ | refine xHere ?_ | refine xFar (by decide) ?_ | refine wp_ret ?_ | refine rThen ?_ | refine rBlk ?_
  refine ret1 hF rfl rfl fun z hz => ?_
  have hz : z = u := hz
  subst hz
  exact ⟨z, rfl, ⟨S, hseg.below hb, hS⟩, hB⟩
end Go.Proofs.Ytmlbkcpmgcjblaa

/- Layer 15 by types: rows of cells, tables; Clone; Good, New. -/
namespace Go.Proofs.Ytmlbkcpmgcjblaa
open Go.RowKit

/-! ### Rows of cells -/
abbrev Ty.cls (e : TypeId) (L : List Cl) : Ty := Ty.sl e L.length (flatC L)
theorem cIndexCl {P : Program} {w0 : World} {Γ : Ctx} {o : Oper} {t e : TypeId} {x ix : Operand} {k : Nat} {kd : IntKind} {L : List Cl} (ho : o.op = .indexAddr t x ix) (hx : Has w0 Γ x (Ty.cls e L)) (hi : OpT Γ ix (Ty.ex (.int kd (k : Int)))) (hu : P.underlying t = some (.slice e)) (hz : (P.info? e).map (·.size) = some 65) (hk : k < L.length) : OpOk P w0 Γ o (Ty.at_ e (L.getD k default).enc) := by
  have h := cIndexS (P := P) ho hx hi hu hz hk (by rw [flatC_len]; omega)
  rw [flatC_at L hk] at h
  exact h.conv at_pre
theorem zero65_cells : (Value.agg Cl.zero.a).cells.size = 65 := Cl.zero.size
/-- make([]Cell, n) -/
theorem made_cells (n : Nat) : (madeCells (Value.agg Cl.zero.a).cells (n * 65)).toList = flatC (tzero n) := by
  apply List.ext_getElem?
  intro j
  have hz : (Value.agg Cl.zero.a).cells = Cl.zero.enc.toArray := rfl
  rw [hz]
  unfold madeCells
  by_cases hj : j < n * 65
  · have h1 : (flatC (tzero n))[j]? = (flatC ((tzero n).drop (j / 65)))[j % 65]? := by
      rw [← flatC_drop, List.getElem?_drop]
      congr 1
      omega
    have h2 : j / 65 < n := by omega
    have h3 : (tzero n).drop (j / 65) = Cl.zero :: tzero (n - j / 65 - 1) := by
      unfold tzero
      rw [List.drop_replicate, show n - j / 65 = (n - j / 65 - 1) + 1 by omega, List.replicate_succ]
      rfl
    have h4 : flatC (Cl.zero :: tzero (n - j / 65 - 1)) = Cl.zero.enc ++ flatC (tzero (n - j / 65 - 1)) := rfl
    have hl : Cl.zero.enc.length = 65 := Cl.enc_len _
    have hm : j % 65 < 65 := Nat.mod_lt _ (by omega)
    rw [h1, h3, h4, List.getElem?_append_left (by omega)]
    simp [hj, hl, hm]
  · rw [List.getElem?_eq_none (by simp; omega), List.getElem?_eq_none (by rw [flatC_len, tzero_len]; omega)]
theorem run_makeCells {P : Program} {t e : TypeId} (n : Nat) (hn : n ≤ 1000000) (ht : P.underlying t = some (.slice e)) (hi : (P.info? e).map (fun i => (i.zero, i.size, i.bytes)) = some (some (.agg Cl.zero.a), 65, 72)) (w : World) :
    (Instr.makeSlice t (.int .i64 (n : Int)) (.int .i64 (n : Int))).run P w = .ok (.slice (some ⟨w.heap.size, 0, none⟩) n n) (w.alloc (.cells (flatC (tzero n)).toArray e)) := by
  obtain ⟨i, h1, h2, h3, h4⟩ := info_parts hi
  have h := run_make (P := P) w t e i _ ht h1 h2 .i64 .i64 (n : Int) (n : Int) (by omega) (Int.le_refl _) (by rw [h4]; omega) (by omega)
  rw [Int.toNat_natCast, h3] at h
  rw [h]
  congr 3
  exact Array.toList_inj.1 (by rw [made_cells])
theorem cMakeCells {P : Program} {w0 : World} {Γ : Ctx} {o : Oper} {t e : TypeId} {x y : Operand} {n : Nat} (ho : o.op = .makeSlice t x y) (hx : OpT Γ x (Ty.ex (.int .i64 (n : Int)))) (hy : OpT Γ y (Ty.ex (.int .i64 (n : Int)))) (ht : P.underlying t = some (.slice e)) (hi : (P.info? e).map (fun i => (i.zero, i.size, i.bytes)) = some (some (.agg Cl.zero.a), 65, 72)) (hn : n ≤ 1000000) : OpOk P w0 Γ o (Ty.seg w0 e 65 (tzero n).length (flatC (tzero n))) :=
  .new fun a w hb hs => by
    rw [tzero_len]
    obtain ⟨u, h1, h2⟩ := hs x _ (by simp [ho, Op.operands]) hx
    obtain ⟨u', h3, h4⟩ := hs y _ (by simp [ho, Op.operands]) hy
    have h2 : u = .int .i64 (n : Int) := h2
    have h4 : u' = .int .i64 (n : Int) := h4
    have hl : (flatC (tzero n)).length = n * 65 := by rw [flatC_len, tzero_len]
    refine ⟨.slice (some ⟨w.heap.size, 0, none⟩) n n, w.alloc (.cells (flatC (tzero n)).toArray e), ⟨[w.heap.size], ?_, fun y hy => ?_⟩, ((Keeps.refl [] w).alloc _).below, ?_⟩
    · have h := Seg.ofBlk (w := w.alloc (.cells (flatC (tzero n)).toArray e)) (sz := 65) (cap := n) (Blk.new w e (flatC (tzero n)).toArray) (by simpa using hl) (by simp [maxLen]; omega)
      simpa using h
    · simp only [List.mem_singleton] at hy
      subst hy
      exact hb.size
    · unfold execOp
      simp only [ho, h1, h2, h3, h4]
      rw [Sem.run_bind, run_makeCells n hn ht hi]
      rfl

/-! ### Tables -/
/-- A table that is read. -/
def Ty.tab (e : TypeId) (seed : Nat) (L : List Cl) : Ty := ⟨fun w v => ∃ s, v = .agg #[.int .u64 (seed : Int), s] ∧ SlP w e s L.length (flatC L), fun t => t == e, fun ⟨s, h1, h2⟩ k hA => ⟨s, h1, (Ty.cls e L).st h2 k hA⟩⟩
/-- A table whose cells are the call's own. -/
def Ty.tabO (w0 : World) (e : TypeId) (seed : Nat) (L : List Cl) : Ty := ⟨fun w v => ∃ s, v = .agg #[.int .u64 (seed : Int), s] ∧ (Ty.seg w0 e 65 L.length (flatC L)).p w s, fun t => t == e, fun ⟨s, h1, h2⟩ k hA => ⟨s, h1, (Ty.seg _ e 65 L.length (flatC L)).st h2 k hA⟩⟩
theorem tabO_tab {w0 : World} {e : TypeId} {seed : Nat} {L : List Cl} : ∀ w v, (Ty.tabO w0 e seed L).p w v → (Ty.tab e seed L).p w v := fun _ _ ⟨s, h1, h2⟩ => ⟨s, h1, seg_sl _ _ h2⟩
theorem tabO_old {w1 w2 : World} (hs : w1.heap.size ≤ w2.heap.size) {e : TypeId} {seed : Nat} {L : List Cl} : ∀ w v, (Ty.tabO w2 e seed L).p w v → (Ty.tabO w1 e seed L).p w v := fun _ _ ⟨s, h1, h2⟩ => ⟨s, h1, seg_old hs _ _ h2⟩
theorem cBoxTab {P : Program} {w0 : World} {Γ : Ctx} {o : Oper} {t : TypeId} {x : Operand} {u s : Value} (ho : o.op = .box t x) (hx : OpT Γ x (Ty.ex (.agg #[u, s]))) : OpOk P w0 Γ o (Ty.at_ t [u, s]) := cBox ho hx
theorem size_u64 : (Try.prog.info? 38).map (·.size) = some 1 := by kernel_rfl
section
variable {w0 : World} {Γ : Ctx} {o : Oper} {x : Operand} {e : TypeId} {u s : Value}
theorem size_row46 : (Try.prog.info? 39).map (·.size) = some 1 := by kernel_rfl
theorem sizeT46 : (Try.prog.info? 41).map (·.size) = some 2 := by kernel_rfl
theorem infoT46 : (Try.prog.info? 41).map (fun i => (i.zero, i.size, i.bytes)) = some (some (.agg #[.int .u64 0, .slice none 0 0]), 2, 32) := by kernel_rfl
theorem cFldS46 (ho : o.op = .fieldAddr 41 x 0) (hx : Has w0 Γ x (Ty.at_ e [u, s])) : OpOk Try.prog w0 Γ o (Ty.at_ e [u, s]) :=
  (cFieldE (P := Try.prog) ho hx Try.underlying41 rfl size_u64).conv fun _ _ h => h
theorem cFldL46 (ho : o.op = .fieldAddr 41 x 1) (hx : Has w0 Γ x (Ty.at_ e [u, s])) : OpOk Try.prog w0 Γ o (Ty.at_ e [s]) :=
  (cFieldE (P := Try.prog) ho hx Try.underlying41 rfl size_row46).conv fun _ _ h => h
theorem cRowOf46 (ho : o.op = .load 39 x) (hx : Has w0 Γ x (Ty.at_ e [s])) : OpOk Try.prog w0 Γ o (Ty.ex s) := cLoad1 ho hx (pts_at _ _) Try.underlying39 rfl
theorem cLoadT46 (ho : o.op = .load 41 x) (hx : Has w0 Γ x (Ty.at_ e [u, s])) : OpOk Try.prog w0 Γ o (Ty.ex (.agg #[u, s])) := cLoadAll (cs := #[u, s]) ho hx Try.underlying41 rfl sizeT46
theorem buildTA46 (n : Int) (A : Option Addr) (l c : Nat) (w : World) : (Instr.build 41 #[(0, .int .u64 n), (1, .slice A l c)]).run Try.prog w = .ok (.agg #[.int .u64 n, .slice A l c]) w := by
  have hz : (zeroValue 41).run Try.prog w = .ok (.agg #[.int .u64 0, .slice none 0 0]) w := by kernel_rfl
  have hu := run_underlying Try.underlying41 w
  have h1 := Try.sizeOf38 w
  simp only [Instr.build, Sem.run_bind, hz, Result.andThen_ok, hu]
  simp [h1, Instr.fill, Value.cells]
theorem buildT46 (n : Int) {s : Value} (hs : ∃ A l c, s = .slice A l c) (w : World) : (Instr.build 41 #[(0, .int .u64 n), (1, s)]).run Try.prog w = .ok (.agg #[.int .u64 n, s]) w := by
  obtain ⟨A, l, c, rfl⟩ := hs
  exact buildTA46 n A l c w
theorem buildT046 (w : World) : (Instr.build 41 #[]).run Try.prog w = .ok (.agg #[.int .u64 0, .slice none 0 0]) w := by kernel_rfl
theorem cLoadU64 (ho : o.op = .load 38 x) {xs : List Value} (hx : Has w0 Γ x (Ty.at_ e (u :: xs))) : OpOk Try.prog w0 Γ o (Ty.ex u) := cLoad1 ho hx (pts_at _ _) Try.underlying38 rfl
end
section
variable {P : Program} {w0 : World} {Γ : Ctx} {o : Oper}
/-- A call through a function value, of one argument. -/
theorem cCallV1 {f : FuncId} {ats : Array TypeId} {x0 x : Operand} {τ ρ : Ty} (ho : o.op = .call { callee := .value x0, args := #[x], argTypes := ats }) (h0 : OpT Γ x0 (Ty.ex (.func (.func f) #[] #[]))) (hx : Has w0 Γ x τ) (hc : Fn1 P f τ ρ) : OpOk P w0 Γ o ρ :=
  .call fun a w hb hs => by
    obtain ⟨v0, k1, k2⟩ := hs x0 _ (by simp [ho, Op.operands, Call.operands]) h0
    have k2 : v0 = .func (.func f) #[] #[] := k2
    obtain ⟨v, h1, h2⟩ := hx.see hs (by simp [ho, Op.operands, Call.operands]) hb
    refine ⟨f, #[v], ?_, hc.ret w v h2⟩
    rw [exec_goV a.eval ho (k1.trans k2)]
    simp only [List.map_toArray, List.map_cons, List.map_nil, h1, Array.append_empty]
    exact hc.en _ w
/-- Calls whose result hangs on the world in which they began. -/
structure FnR1 (P : Program) (f : FuncId) (τ : Ty) (ρ : World → Ty) : Prop where
  en : Enters P f
  ret : ∀ w v, τ.p w v → Ret P f #[v] w (ρ w)
structure FnR2 (P : Program) (f : FuncId) (τ σ : Ty) (ρ : World → Ty) : Prop where
  en : Enters P f
  ret : ∀ w v u, τ.p w v → σ.p w u → Ret P f #[v, u] w (ρ w)
structure FnR3 (P : Program) (f : FuncId) (τ σ υ : Ty) (ρ : World → Ty) : Prop where
  en : Enters P f
  ret : ∀ w v u z, τ.p w v → σ.p w u → υ.p w z → Ret P f #[v, u, z] w (ρ w)
def Olds (ρ : World → Ty) : Prop := ∀ {w1 w2 : World}, w1.heap.size ≤ w2.heap.size → ∀ w v, (ρ w2).p w v → (ρ w1).p w v
theorem goodN_rng {n : Int} (h : goodN n = true) : ∃ N : Nat, n = (N : Int) ∧ 3 ≤ N ∧ N ≤ 1024 := by
  have := of_decide_eq_true h
  exact ⟨n.toNat, by omega, by omega, by omega⟩
theorem cCallR2 {f : FuncId} {ats : Array TypeId} {x y : Operand} {τ σ : Ty} {ρ : World → Ty} (ho : o.op = .call { callee := .value (.func f), args := #[x, y], argTypes := ats }) (hx : Has w0 Γ x τ) (hy : Has w0 Γ y σ) (hc : FnR2 P f τ σ ρ) (hρ : Olds ρ) : OpOk P w0 Γ o (ρ w0) :=
  .call fun a w hb hs => by
    obtain ⟨v, h1, h2⟩ := hx.see hs (by simp [ho, Op.operands, Call.operands]) hb
    obtain ⟨u, h3, h4⟩ := hy.see hs (by simp [ho, Op.operands, Call.operands]) hb
    refine ⟨f, #[v, u], ?_, (hc.ret w v u h2 h4).mono (hρ hb.size)⟩
    rw [exec_go a.eval ho rfl]
    simp only [List.map_toArray, List.map_cons, List.map_nil, h1, h3]
    exact hc.en _ w
theorem cCallR3 {f : FuncId} {ats : Array TypeId} {x y z : Operand} {τ σ υ : Ty} {ρ : World → Ty} (ho : o.op = .call { callee := .value (.func f), args := #[x, y, z], argTypes := ats }) (hx : Has w0 Γ x τ) (hy : Has w0 Γ y σ) (hz : Has w0 Γ z υ) (hc : FnR3 P f τ σ υ ρ) (hρ : Olds ρ) : OpOk P w0 Γ o (ρ w0) :=
  .call fun a w hb hs => by
    obtain ⟨v, h1, h2⟩ := hx.see hs (by simp [ho, Op.operands, Call.operands]) hb
    obtain ⟨u, h3, h4⟩ := hy.see hs (by simp [ho, Op.operands, Call.operands]) hb
    obtain ⟨q, h5, h6⟩ := hz.see hs (by simp [ho, Op.operands, Call.operands]) hb
    refine ⟨f, #[v, u, q], ?_, (hc.ret w v u q h2 h4 h6).mono (hρ hb.size)⟩
    rw [exec_go a.eval ho rfl]
    simp only [List.map_toArray, List.map_cons, List.map_nil, h1, h3, h5]
    exact hc.en _ w
/-- A table built out of a row of one's own. -/
theorem cBuildTabO {t e : TypeId} {x y : Operand} {seed : Nat} {L : List Cl} (ho : o.op = .build t #[(0, x), (1, y)]) (hx : OpT Γ x (Ty.ex (.int .u64 (seed : Int)))) (hy : OpT Γ y (Ty.seg w0 e 65 L.length (flatC L))) (hr : ∀ (s : Value), (∃ A l c, s = .slice A l c) → ∀ w : World, (Instr.build t #[(0, .int .u64 (seed : Int)), (1, s)]).run P w = .ok (.agg #[.int .u64 (seed : Int), s]) w) : OpOk P w0 Γ o (Ty.tabO w0 e seed L) :=
  .val fun a w _ hs => by
    obtain ⟨v, h1, h2⟩ := hs x _ (by simp [ho, Op.operands]) hx
    obtain ⟨s, h3, h4⟩ := hs y _ (by simp [ho, Op.operands]) hy
    have h2 : v = .int .u64 (seed : Int) := h2
    subst h2
    have hf : ∃ A l c, s = .slice A l c := by
      obtain ⟨A, c, h, _⟩ := (seg_sl _ _ h4).form
      exact ⟨A, _, c, h⟩
    refine ⟨_, ⟨s, rfl, h4⟩, ?_⟩
    unfold execOp
    simp only [ho]
    have e1 : ((#[(0, x), (1, y)] : Array (Nat × Operand)).map fun (i, x) => (i, a.eval x)) = #[(0, .int .u64 (seed : Int)), (1, s)] := by simp [h1, h3]
    rw [e1, Sem.run_bind, hr s hf w]
    rfl
end
set_option maxRecDepth 100000 in
theorem cloneC_ty (L : List Cl) (hL : L.length ≤ 1000000) : FnSeg1 Try.prog 78 (Ty.cls 87 L) 87 65 L.length (flatC L) := by
  refine ⟨fun args w => by kernel_rfl, fun w v hv => ?_⟩
  have hv' := hv
  obtain ⟨A, c, rfl, hnc, hcm, hA, hr⟩ := hv'
  refine enter_ty 8 [Ty.ex (.slice A L.length c)] Try.func78 rfl (by kernel_rfl) ⟨rfl, trivial⟩ fun a hF => ?_
  have hB := Below.refl w.heap.size w
  repeat with_reducible first | refine wp_seq ?_ | refine nThen ?_ | refine nBlk ?_ | refine wp_skip ?_ | refine wp_block ?_ | refine wp_exit ?_ | refine xThen ?_ | refine xHere ?_ | refine xFar (by decide) ?_ | refine wp_ret ?_ | refine rThen ?_ | refine rBlk ?_
  refine' reg_all hF ?_ mixed (by kernel_rfl) ?_
  rotate_left
  · repeat (first
        | exact Line.nil
        | (refine' Line.cons rfl (.no rfl rfl rfl rfl rfl rfl) ?_; rotate_left)
        | ((first | refine' Line.cons rfl (.run rfl rfl ?_) ?_ | refine' Line.cons rfl (.yes rfl rfl rfl rfl ?_) ?_)
           any_goals (first | exact cMove rfl rfl | exact cAssign rfl rfl | exact cNot rfl rfl | exact cPickT rfl rfl rfl | exact cPickF rfl rfl rfl | exact cLss rfl rfl rfl | exact cLeq rfl rfl rfl | exact cGtr rfl rfl rfl | exact cGeq rfl rfl rfl | exact cEql rfl rfl rfl | exact cNeq rfl rfl rfl | exact cExtract rfl rfl rfl)
           rotate_left))
  intro a w1 hF hb hN
  have hBs := hB.size
  replace hB := hB.trans (hb.mono hB.size)
  dsimp only [ext, Option.getD] at hF
  repeat with_reducible first | refine wp_seq ?_ | refine nThen ?_ | refine nBlk ?_ | refine wp_skip ?_ | refine wp_block ?_ | refine wp_exit ?_ | refine xThen ?_ | refine xHere ?_ | refine xFar (by decide) ?_ | refine wp_ret ?_ | refine rThen ?_ | refine rBlk ?_
  refine' reg_all hF ?_ mixed (by kernel_rfl) ?_
  rotate_left
  · repeat (first
        | exact Line.nil
        | (refine' Line.cons rfl (.no rfl rfl rfl rfl rfl rfl) ?_; rotate_left)
        | ((first | refine' Line.cons rfl (.run rfl rfl ?_) ?_ | refine' Line.cons rfl (.yes rfl rfl rfl rfl ?_) ?_)
           any_goals (first | exact cMove rfl rfl | exact cAssign rfl rfl | exact cNot rfl rfl | exact cEqlNil rfl rfl Try.underlying39 | exact cPickT rfl rfl rfl | exact cPickF rfl rfl rfl | exact cLss rfl rfl rfl | exact cLeq rfl rfl rfl | exact cGtr rfl rfl rfl | exact cGeq rfl rfl rfl | exact cEql rfl rfl rfl | exact cNeq rfl rfl rfl | exact cExtract rfl rfl rfl)
           rotate_left))
  intro a w2 hF hb hN
  have hBs := hB.size
  replace hB := hB.trans (hb.mono hB.size)
  dsimp only [ext, Option.getD] at hF
  repeat with_reducible first | refine wp_seq ?_ | refine nThen ?_ | refine nBlk ?_ | refine wp_skip ?_ | refine wp_block ?_ | refine wp_exit ?_ | refine xThen ?_ | refine xHere ?_ | refine xFar (by decide) ?_ | refine wp_ret ?_ | refine rThen ?_ | refine rBlk ?_
  refine cond_ty hF rfl (fun h0 => ?_) (fun h1 => ?_)
  · have h0 : A = none := by cases A <;> simp at h0 ⊢
    have hl : L = [] := List.eq_nil_of_length_eq_zero (hA h0).1
    subst hl
    repeat with_reducible first | refine wp_seq ?_ | refine nThen ?_ | refine nBlk ?_ | refine wp_skip ?_ | refine wp_block ?_ | refine wp_exit ?_ | refine xThen ?_ | refine xHere ?_ | refine xFar (by decide) ?_ | refine wp_ret ?_ | refine rThen ?_ | refine rBlk ?_
    refine' reg_all hF ?_ mixed (by kernel_rfl) ?_
    rotate_left
    · repeat (first
          | exact Line.nil
          | (refine' Line.cons rfl (.no rfl rfl rfl rfl rfl rfl) ?_; rotate_left)
          | ((first | refine' Line.cons rfl (.run rfl rfl ?_) ?_ | refine' Line.cons rfl (.yes rfl rfl rfl rfl ?_) ?_)
             any_goals (first | exact cMove rfl rfl | exact cAssign rfl rfl | exact cNot rfl rfl | exact cPickT rfl rfl rfl | exact cPickF rfl rfl rfl | exact cLss rfl rfl rfl | exact cLeq rfl rfl rfl | exact cGtr rfl rfl rfl | exact cGeq rfl rfl rfl | exact cEql rfl rfl rfl | exact cNeq rfl rfl rfl | exact cExtract rfl rfl rfl)
             rotate_left))
    intro a w3 hF hb hN
    have hBs := hB.size
    replace hB := hB.trans (hb.mono hB.size)
    dsimp only [ext, Option.getD] at hF
    repeat with_reducible first | refine wp_seq ?_ | refine nThen ?_ | refine nBlk ?_ | refine wp_skip ?_ | refine wp_block ?_ | refine wp_exit ?_ | refine xThen ?_ | refine xHere ?_ | refine xFar (by decide) ?_ | refine wp_ret ?_ | refine rThen ?_ | refine rBlk ?_
    refine ret1 hF rfl rfl fun z hz => ?_
    have hz : z = .slice none 0 0 := hz
    subst hz
    exact ⟨_, rfl, ⟨[], Seg.nil _ _ _, by simp⟩, hB⟩
  · repeat with_reducible first | refine wp_seq ?_ | refine nThen ?_ | refine nBlk ?_ | refine wp_skip ?_ | refine wp_block ?_ | refine wp_exit ?_ | refine xThen ?_ | refine xHere ?_ | refine xFar (by decide) ?_ | refine wp_ret ?_ | refine rThen ?_ | refine rBlk ?_
    refine' region_ty 2 mixed (by kernel_rfl) hF ?_ ?_
    rotate_left
    · simp only [List.take_succ_cons, List.take_zero]
      repeat (first
          | exact Line.nil
          | (refine' Line.cons rfl (.no rfl rfl rfl rfl rfl rfl) ?_; rotate_left)
          | ((first | refine' Line.cons rfl (.run rfl rfl ?_) ?_ | refine' Line.cons rfl (.yes rfl rfl rfl rfl ?_) ?_)
             any_goals (first | exact cMove rfl rfl | exact cAssign rfl rfl | exact cNot rfl rfl | exact cBuild0 rfl Try.underlying39 infoC34 | exact cPickT rfl rfl rfl | exact cPickF rfl rfl rfl | exact cLss rfl rfl rfl | exact cLeq rfl rfl rfl | exact cGtr rfl rfl rfl | exact cGeq rfl rfl rfl | exact cEql rfl rfl rfl | exact cNeq rfl rfl rfl | exact cExtract rfl rfl rfl)
             rotate_left))
    intro a w3 hF hb hN
    have hBs := hB.size
    replace hB := hB.trans (hb.mono hB.size)
    simp only [List.take_succ_cons, List.take_zero, List.drop_succ_cons, List.drop_zero] at hF hN ⊢
    dsimp only [ext, Option.getD] at hF
    obtain ⟨u, ⟨S, hseg, hS⟩, hF⟩ := hF.open (s := 5) rfl
    refine tlAppend (Δ := []) hF rfl rfl rfl rfl Try.underlying39 infoC34 zero65_cells rfl hseg (.l (v := .slice A L.length c) rfl ((Ty.cls 87 L).below hv hB)) sl_news (flatC_len _) flatC_one' (by simp [maxLen]; omega) (by omega) hF.nil rfl ?_
    intro a w4 u' S' hF hseg' hk2 hS'
    have hbS : ∀ y ∈ S', w.heap.size ≤ y := own_next hB (fun y hy => Nat.le_trans hBs (hS y hy)) hS'
    replace hB := below_own hB hk2 (fun y hy => Nat.le_trans hBs (hS y hy))
    refine' tlOp hF rfl rfl rfl ?_ ?_
    rotate_left
    · first | exact cMove rfl rfl | exact cAssign rfl rfl | exact cPickT rfl rfl rfl | exact cPickF rfl rfl rfl | exact cNot rfl rfl | exact cLss rfl rfl rfl | exact cLeq rfl rfl rfl | exact cGtr rfl rfl rfl | exact cGeq rfl rfl rfl | exact cEql rfl rfl rfl | exact cNeq rfl rfl rfl | exact cExtract rfl rfl rfl
    intro a w5 hF hb
    have hBs := hB.size
    replace hB := hB.trans (hb.mono hB.size)
    try (refine wpList_nil ?_)
    repeat with_reducible first | refine wp_seq ?_ | refine nThen ?_ | refine nBlk ?_ | refine wp_skip ?_ | refine wp_block ?_ | refine wp_exit ?_ | refine xThen ?_ | refine xHere ?_ | refine xFar (by decide) ?_ | refine wp_ret ?_ | refine rThen ?_ | refine rBlk ?_
    refine ret1 hF rfl rfl fun z hz => ?_
    have hz : z = u' := hz
    subst hz
    rw [Nat.zero_add, List.nil_append] at hseg'
    exact ⟨_, rfl, ⟨S', hseg'.below hb, hbS⟩, hB⟩
set_option maxRecDepth 100000 in
theorem tgood_ty (seed : Nat) (L : List Cl) : Fn1 Try.prog 33 (Ty.tab 87 seed L) (Ty.ex (.bool (goodN (L.length : Int)))) := by
  refine ⟨fun args w => by kernel_rfl, fun w v ⟨s, hv, hs⟩ => ?_⟩
  subst hv
  have hG := good14_ty (L.length : Int)
  refine enter_ty 7 [Ty.ex (.agg #[.int .u64 (seed : Int), s])] Try.func33 rfl (by kernel_rfl) ⟨rfl, trivial⟩ fun a hF => ?_
  have hB := Below.refl w.heap.size w
  repeat with_reducible first | refine wp_seq ?_ | refine nThen ?_ | refine nBlk ?_ | refine wp_skip ?_ | refine wp_block ?_ | refine wp_exit ?_ | refine xThen ?_ | refine xHere ?_ | refine xFar (by decide) ?_ | refine wp_ret ?_ | refine rThen ?_ | refine rBlk ?_
  refine' reg_all hF ?_ mixed (by kernel_rfl) ?_
  rotate_left
  · repeat (first
        | exact Line.nil
        | (refine' Line.cons rfl (.no rfl rfl rfl rfl rfl rfl) ?_; rotate_left)
        | ((first | refine' Line.cons rfl (.run rfl rfl ?_) ?_ | refine' Line.cons rfl (.yes rfl rfl rfl rfl ?_) ?_)
           any_goals (first | exact cMove rfl rfl | exact cAssign rfl rfl | exact cNot rfl rfl | exact cBoxTab rfl rfl | exact cPickT rfl rfl rfl | exact cPickF rfl rfl rfl | exact cLss rfl rfl rfl | exact cLeq rfl rfl rfl | exact cGtr rfl rfl rfl | exact cGeq rfl rfl rfl | exact cEql rfl rfl rfl | exact cNeq rfl rfl rfl | exact cExtract rfl rfl rfl)
           rotate_left))
  intro a w1 hF hb hN
  have hBs := hB.size
  replace hB := hB.trans (hb.mono hB.size)
  dsimp only [ext, Option.getD] at hF
  repeat with_reducible first | refine wp_seq ?_ | refine nThen ?_ | refine nBlk ?_ | refine wp_skip ?_ | refine wp_block ?_ | refine wp_exit ?_ | refine xThen ?_ | refine xHere ?_ | refine xFar (by decide) ?_ | refine wp_ret ?_ | refine rThen ?_ | refine rBlk ?_
  have hs1 := (Ty.cls 87 L).below hs hB
  refine' reg_all hF ?_ mixed (by kernel_rfl) ?_
  rotate_left
  · repeat (first
        | exact Line.nil
        | (refine' Line.cons rfl (.no rfl rfl rfl rfl rfl rfl) ?_; rotate_left)
        | ((first | refine' Line.cons rfl (.run rfl rfl ?_) ?_ | refine' Line.cons rfl (.yes rfl rfl rfl rfl ?_) ?_)
           any_goals (first | exact cMove rfl rfl | exact cAssign rfl rfl | exact cNot rfl rfl | exact cFldL46 rfl (.t rfl) | exact cRowOf46 rfl (.t rfl) | exact cLenH rfl (.l rfl hs1) (Ty.sl_isSl _ _ _) Try.underlying39 | exact cCall1 rfl rfl hG | exact cPickT rfl rfl rfl | exact cPickF rfl rfl rfl | exact cLss rfl rfl rfl | exact cLeq rfl rfl rfl | exact cGtr rfl rfl rfl | exact cGeq rfl rfl rfl | exact cEql rfl rfl rfl | exact cNeq rfl rfl rfl | exact cExtract rfl rfl rfl)
           rotate_left))
  intro a w2 hF hb hN
  have hBs := hB.size
  replace hB := hB.trans (hb.mono hB.size)
  dsimp only [ext, Option.getD] at hF
  repeat with_reducible first | refine wp_seq ?_ | refine nThen ?_ | refine nBlk ?_ | refine wp_skip ?_ | refine wp_block ?_ | refine wp_exit ?_ | refine xThen ?_ | refine xHere ?_ | refine xFar (by decide) ?_ | refine wp_ret ?_ | refine rThen ?_ | refine rBlk ?_
  refine ret1 hF rfl rfl fun z hz => ?_
  exact ⟨z, rfl, hz, hB⟩
/-- New cells, or none. -/
def newL (n : Int) : List Cl := if goodN n then tzero n.toNat else []
def newS (seed : Nat) (n : Int) : Nat := if goodN n then seed else 0
def newE (n : Int) : Value := .int .i64 (if goodN n then 0 else 1)
/-- A table with an error's number. -/
def Ty.tabE (w0 : World) (e : TypeId) (seed : Nat) (L : List Cl) (err : Value) : Ty := ⟨fun w v => ∃ u, v = .tuple #[u, err] ∧ (Ty.tabO w0 e seed L).p w u, fun t => t == e, fun ⟨u, h1, h2⟩ k hA => ⟨u, h1, (Ty.tabO _ e seed L).st h2 k hA⟩⟩
theorem tabE_old {w1 w2 : World} (hs : w1.heap.size ≤ w2.heap.size) {e : TypeId} {seed : Nat} {L : List Cl} {err : Value} : ∀ w v, (Ty.tabE w2 e seed L err).p w v → (Ty.tabE w1 e seed L err).p w v := fun _ _ ⟨u, h1, h2⟩ => ⟨u, h1, tabO_old hs _ _ h2⟩
theorem tabE_olds (e : TypeId) (seed : Nat) (L : List Cl) (err : Value) : Olds fun w => Ty.tabE w e seed L err := fun hs _ _ h => tabE_old hs _ _ h
end Go.Proofs.Ytmlbkcpmgcjblaa

/- Layer 15 by types: New, Zero. -/
namespace Go.Proofs.Ytmlbkcpmgcjblaa
open Go.RowKit

theorem tabCells (seed : Nat) (A : Option Addr) (l c : Nat) : (Value.agg #[.int .u64 (seed : Int), .slice A l c]).cells.all (·.oneCell') = true := by simp [Value.cells, Value.oneCell']
theorem sl_one {w : World} {e : TypeId} {v : Value} {n : Nat} {xs : List Value} (h : SlP w e v n xs) (seed : Nat) : (Value.agg #[.int .u64 (seed : Int), v]).cells.all (·.oneCell') = true := by
  obtain ⟨A, c, rfl, _⟩ := h
  exact tabCells seed A n c
theorem sl_isA {w : World} {e : TypeId} {v : Value} {n : Nat} {xs : List Value} (h : SlP w e v n xs) : ∃ A l c, v = .slice A l c := by
  obtain ⟨A, c, rfl, _⟩ := h
  exact ⟨A, n, c, rfl⟩
/-- A row's blocks are other ones than a variable of another type. -/
theorem seg_far {w : World} {e t : TypeId} {sz n g : Nat} {v : Value} {xs : List Value} {S : List Nat} {cs : Array Value} (h : Seg w e sz v n xs S) (hb : Blk w g t cs) (hne : (t == e) = false) : ∀ y ∈ S, y ∉ [g] := fun y hy hm => by
  simp only [List.mem_singleton] at hm
  subst hm
  obtain ⟨cs', fr, h1⟩ := h.blocks y hy hb.lt
  unfold Blk at hb
  rw [hb] at h1
  simp only [Option.some.injEq, Obj.cells.injEq] at h1
  rw [h1.2.1] at hne
  simp at hne
abbrev zeroT : Array Value := #[.int .u64 0, .slice none 0 0]
set_option maxRecDepth 100000 in
theorem tnew_ty (seed : Nat) (n : Int) : FnR2 Try.prog 30 (Ty.ex (.int .u64 (seed : Int))) (Ty.ex (.int .i64 n)) (fun w => Ty.tabE w 87 (newS seed n) (newL n) (newE n)) := by
  refine ⟨fun args w => by kernel_rfl, fun w v u hv hu => ?_⟩
  have hg := good14_ty n
  by_cases hgn : goodN n = true
  rotate_left
  · have hgn : goodN n = false := by simpa using hgn
    rw [hgn] at hg
    have e1 : newS seed n = 0 := by unfold newS; rw [hgn]; rfl
    have e2 : newL n = [] := by unfold newL; rw [hgn]; rfl
    have e3 : newE n = .int .i64 1 := by unfold newE; rw [hgn]; rfl
    rw [e1, e2, e3]
    refine enter_ty 14 [Ty.ex (.int .u64 (seed : Int)), Ty.ex (.int .i64 n)] Try.func30 rfl (by kernel_rfl) ⟨hv, hu, trivial⟩ fun a hF => ?_
    have hB := Below.refl w.heap.size w
    repeat with_reducible first | refine wp_seq ?_ | refine nThen ?_ | refine nBlk ?_ | refine wp_skip ?_ | refine wp_block ?_ | refine wp_exit ?_ | refine xThen ?_ | refine xHere ?_ | refine xFar (by decide) ?_ | refine wp_ret ?_ | refine rThen ?_ | refine rBlk ?_
    refine' reg_all hF ?_ mixed (by kernel_rfl) ?_
    rotate_left
    · repeat (first
          | exact Line.nil
          | (refine' Line.cons rfl (.no rfl rfl rfl rfl rfl rfl) ?_; rotate_left)
          | (refine' Line.cons rfl (.new rfl rfl (run_alloc_i infoT46) rfl) ?_; rotate_left)
          | ((first | refine' Line.cons rfl (.run rfl rfl ?_) ?_ | refine' Line.cons rfl (.yes rfl rfl rfl rfl ?_) ?_)
             any_goals (first | exact cMove rfl rfl | exact cAssign rfl rfl | exact cNot rfl rfl | exact cPickT rfl rfl rfl | exact cPickF rfl rfl rfl | exact cLss rfl rfl rfl | exact cLeq rfl rfl rfl | exact cGtr rfl rfl rfl | exact cGeq rfl rfl rfl | exact cEql rfl rfl rfl | exact cNeq rfl rfl rfl | exact cExtract rfl rfl rfl)
             rotate_left))
    intro a w1 hF hb hN
    have hBs := hB.size
    replace hB := hB.trans (hb.mono hB.size)
    dsimp only [ext, Option.getD] at hF
    repeat with_reducible first | refine wp_seq ?_ | refine nThen ?_ | refine nBlk ?_ | refine wp_skip ?_ | refine wp_block ?_ | refine wp_exit ?_ | refine xThen ?_ | refine xHere ?_ | refine xFar (by decide) ?_ | refine wp_ret ?_ | refine rThen ?_ | refine rBlk ?_
    obtain ⟨z, ⟨gx, rfl, hgx, hbx⟩, hF⟩ := hF.open (s := 4) rfl
    repeat with_reducible first | refine wp_seq ?_ | refine nThen ?_ | refine nBlk ?_ | refine wp_skip ?_ | refine wp_block ?_ | refine wp_exit ?_ | refine xThen ?_ | refine xHere ?_ | refine xFar (by decide) ?_ | refine wp_ret ?_ | refine rThen ?_ | refine rBlk ?_
    refine' reg_all hF ?_ mixed (by kernel_rfl) ?_
    rotate_left
    · repeat (first
          | exact Line.nil
          | (refine' Line.cons rfl (.no rfl rfl rfl rfl rfl rfl) ?_; rotate_left)
          | ((first | refine' Line.cons rfl (.run rfl rfl ?_) ?_ | refine' Line.cons rfl (.yes rfl rfl rfl rfl ?_) ?_)
             any_goals (first | exact cMove rfl rfl | exact cAssign rfl rfl | exact cNot rfl rfl | exact cCall1 rfl rfl hg | exact cPickT rfl rfl rfl | exact cPickF rfl rfl rfl | exact cLss rfl rfl rfl | exact cLeq rfl rfl rfl | exact cGtr rfl rfl rfl | exact cGeq rfl rfl rfl | exact cEql rfl rfl rfl | exact cNeq rfl rfl rfl | exact cExtract rfl rfl rfl)
             rotate_left))
    intro a w2 hF hb hN
    have hBs := hB.size
    replace hB := hB.trans (hb.mono hB.size)
    dsimp only [ext, Option.getD] at hF
    repeat with_reducible first | refine wp_seq ?_ | refine nThen ?_ | refine nBlk ?_ | refine wp_skip ?_ | refine wp_block ?_ | refine wp_exit ?_ | refine xThen ?_ | refine xHere ?_ | refine xFar (by decide) ?_ | refine wp_ret ?_ | refine rThen ?_ | refine rBlk ?_
    replace hbx := hbx.below hb
    refine cond_t hF rfl ?_
    repeat with_reducible first | refine wp_seq ?_ | refine nThen ?_ | refine nBlk ?_ | refine wp_skip ?_ | refine wp_block ?_ | refine wp_exit ?_ | refine xThen ?_ | refine xHere ?_ | refine xFar (by decide) ?_ | refine wp_ret ?_ | refine rThen ?_ | refine rBlk ?_
    refine' region_ty 1 mixed (by kernel_rfl) hF ?_ ?_
    rotate_left
    · simp only [List.take_succ_cons, List.take_zero]
      repeat (first
          | exact Line.nil
          | (refine' Line.cons rfl (.no rfl rfl rfl rfl rfl rfl) ?_; rotate_left)
          | ((first | refine' Line.cons rfl (.run rfl rfl ?_) ?_ | refine' Line.cons rfl (.yes rfl rfl rfl rfl ?_) ?_)
             any_goals (first | exact cMove rfl rfl | exact cAssign rfl rfl | exact cNot rfl rfl | exact cBuildE rfl (fun w => buildT046 w) | exact cPickT rfl rfl rfl | exact cPickF rfl rfl rfl | exact cLss rfl rfl rfl | exact cLeq rfl rfl rfl | exact cGtr rfl rfl rfl | exact cGeq rfl rfl rfl | exact cEql rfl rfl rfl | exact cNeq rfl rfl rfl | exact cExtract rfl rfl rfl)
             rotate_left))
    intro a w3 hF hb hN
    have hBs := hB.size
    replace hB := hB.trans (hb.mono hB.size)
    simp only [List.take_succ_cons, List.take_zero, List.drop_succ_cons, List.drop_zero] at hF hN ⊢
    dsimp only [ext, Option.getD] at hF
    replace hbx := hbx.below hb
    refine tlStoreV (Δ := [(4, Ty.ex (.pointer (some ⟨gx, 0, none⟩)))]) hF rfl rfl rfl rfl (hF.getEx (s := 9) rfl) hbx rfl sizeT46 (tabCells 0 _ _ _) (hF.keep [4]) rfl ?_
    intro w4 hF hbx hkx
    replace hB := below_own hB hkx (by intro y hy; simp only [List.mem_singleton] at hy; omega)
    refine' tlOp hF rfl rfl rfl ?_ ?_
    rotate_left
    · first | exact cMove rfl rfl | exact cAssign rfl rfl | exact cPickT rfl rfl rfl | exact cPickF rfl rfl rfl | exact cNot rfl rfl | exact cLss rfl rfl rfl | exact cLeq rfl rfl rfl | exact cGtr rfl rfl rfl | exact cGeq rfl rfl rfl | exact cEql rfl rfl rfl | exact cNeq rfl rfl rfl | exact cExtract rfl rfl rfl
    intro a w5 hF hb
    have hBs := hB.size
    replace hB := hB.trans (hb.mono hB.size)
    try (refine wpList_nil ?_)
    repeat with_reducible first | refine wp_seq ?_ | refine nThen ?_ | refine nBlk ?_ | refine wp_skip ?_ | refine wp_block ?_ | refine wp_exit ?_ | refine xThen ?_ | refine xHere ?_ | refine xFar (by decide) ?_ | refine wp_ret ?_ | refine rThen ?_ | refine rBlk ?_
    replace hbx := hbx.below hb
    refine retCell2 hF rfl rfl rfl hbx Try.underlying41 rfl sizeT46 ?_
    exact ⟨_, rfl, ⟨_, rfl, _, rfl, [], Seg.nil _ _ _, by simp⟩, hB⟩
  obtain ⟨N, rfl, hN1, hN2⟩ := goodN_rng hgn
  rw [hgn] at hg
  have e1 : newS seed (N : Int) = seed := by unfold newS; rw [hgn]; rfl
  have e2 : newL (N : Int) = tzero N := by unfold newL; rw [hgn, Int.toNat_natCast]; rfl
  have e3 : newE (N : Int) = .int .i64 0 := by unfold newE; rw [hgn]; rfl
  rw [e1, e2, e3]
  refine enter_ty 14 [Ty.ex (.int .u64 (seed : Int)), Ty.ex (.int .i64 (N : Int))] Try.func30 rfl (by kernel_rfl) ⟨hv, hu, trivial⟩ fun a hF => ?_
  have hB := Below.refl w.heap.size w
  repeat with_reducible first | refine wp_seq ?_ | refine nThen ?_ | refine nBlk ?_ | refine wp_skip ?_ | refine wp_block ?_ | refine wp_exit ?_ | refine xThen ?_ | refine xHere ?_ | refine xFar (by decide) ?_ | refine wp_ret ?_ | refine rThen ?_ | refine rBlk ?_
  refine' reg_all hF ?_ mixed (by kernel_rfl) ?_
  rotate_left
  · repeat (first
        | exact Line.nil
        | (refine' Line.cons rfl (.no rfl rfl rfl rfl rfl rfl) ?_; rotate_left)
        | (refine' Line.cons rfl (.new rfl rfl (run_alloc_i infoT46) rfl) ?_; rotate_left)
        | ((first | refine' Line.cons rfl (.run rfl rfl ?_) ?_ | refine' Line.cons rfl (.yes rfl rfl rfl rfl ?_) ?_)
           any_goals (first | exact cMove rfl rfl | exact cAssign rfl rfl | exact cNot rfl rfl | exact cPickT rfl rfl rfl | exact cPickF rfl rfl rfl | exact cLss rfl rfl rfl | exact cLeq rfl rfl rfl | exact cGtr rfl rfl rfl | exact cGeq rfl rfl rfl | exact cEql rfl rfl rfl | exact cNeq rfl rfl rfl | exact cExtract rfl rfl rfl)
           rotate_left))
  intro a w1 hF hb hN
  have hBs := hB.size
  replace hB := hB.trans (hb.mono hB.size)
  dsimp only [ext, Option.getD] at hF
  repeat with_reducible first | refine wp_seq ?_ | refine nThen ?_ | refine nBlk ?_ | refine wp_skip ?_ | refine wp_block ?_ | refine wp_exit ?_ | refine xThen ?_ | refine xHere ?_ | refine xFar (by decide) ?_ | refine wp_ret ?_ | refine rThen ?_ | refine rBlk ?_
  obtain ⟨z, ⟨gx, rfl, hgx, hbx⟩, hF⟩ := hF.open (s := 4) rfl
  repeat with_reducible first | refine wp_seq ?_ | refine nThen ?_ | refine nBlk ?_ | refine wp_skip ?_ | refine wp_block ?_ | refine wp_exit ?_ | refine xThen ?_ | refine xHere ?_ | refine xFar (by decide) ?_ | refine wp_ret ?_ | refine rThen ?_ | refine rBlk ?_
  refine' reg_all hF ?_ mixed (by kernel_rfl) ?_
  rotate_left
  · repeat (first
        | exact Line.nil
        | (refine' Line.cons rfl (.no rfl rfl rfl rfl rfl rfl) ?_; rotate_left)
        | ((first | refine' Line.cons rfl (.run rfl rfl ?_) ?_ | refine' Line.cons rfl (.yes rfl rfl rfl rfl ?_) ?_)
           any_goals (first | exact cMove rfl rfl | exact cAssign rfl rfl | exact cNot rfl rfl | exact cCall1 rfl rfl hg | exact cPickT rfl rfl rfl | exact cPickF rfl rfl rfl | exact cLss rfl rfl rfl | exact cLeq rfl rfl rfl | exact cGtr rfl rfl rfl | exact cGeq rfl rfl rfl | exact cEql rfl rfl rfl | exact cNeq rfl rfl rfl | exact cExtract rfl rfl rfl)
           rotate_left))
  intro a w2 hF hb hN
  have hBs := hB.size
  replace hB := hB.trans (hb.mono hB.size)
  dsimp only [ext, Option.getD] at hF
  repeat with_reducible first | refine wp_seq ?_ | refine nThen ?_ | refine nBlk ?_ | refine wp_skip ?_ | refine wp_block ?_ | refine wp_exit ?_ | refine xThen ?_ | refine xHere ?_ | refine xFar (by decide) ?_ | refine wp_ret ?_ | refine rThen ?_ | refine rBlk ?_
  replace hbx := hbx.below hb
  refine cond_f hF rfl ?_
  repeat with_reducible first | refine wp_seq ?_ | refine nThen ?_ | refine nBlk ?_ | refine wp_skip ?_ | refine wp_block ?_ | refine wp_exit ?_ | refine xThen ?_ | refine xHere ?_ | refine xFar (by decide) ?_ | refine wp_ret ?_ | refine rThen ?_ | refine rBlk ?_
  have hw2 := hB.size
  refine' region_ty 4 mixed (by kernel_rfl) hF ?_ ?_
  rotate_left
  · simp only [List.take_succ_cons, List.take_zero]
    repeat (first
        | exact Line.nil
        | (refine' Line.cons rfl (.no rfl rfl rfl rfl rfl rfl) ?_; rotate_left)
        | ((first | refine' Line.cons rfl (.run rfl rfl ?_) ?_ | refine' Line.cons rfl (.yes rfl rfl rfl rfl ?_) ?_)
           any_goals (first | exact cMove rfl rfl | exact cAssign rfl rfl | exact cNot rfl rfl | exact cMakeCells (n := N) rfl rfl rfl Try.underlying39 infoC34 (by omega) | exact cBuildTabO (L := tzero N) rfl rfl rfl (fun s hs w => buildT46 _ hs w) | exact cPickT rfl rfl rfl | exact cPickF rfl rfl rfl | exact cLss rfl rfl rfl | exact cLeq rfl rfl rfl | exact cGtr rfl rfl rfl | exact cGeq rfl rfl rfl | exact cEql rfl rfl rfl | exact cNeq rfl rfl rfl | exact cExtract rfl rfl rfl)
           rotate_left))
  intro a w3 hF hb hN
  have hBs := hB.size
  replace hB := hB.trans (hb.mono hB.size)
  simp only [List.take_succ_cons, List.take_zero, List.drop_succ_cons, List.drop_zero] at hF hN ⊢
  dsimp only [ext, Option.getD] at hF
  replace hbx := hbx.below hb
  have hgx2 := hbx.lt
  obtain ⟨z, ⟨s, rfl, S, hs, hS⟩, hF⟩ := hF.open (s := 13) rfl
  refine tlStoreV (Δ := [(4, Ty.ex (.pointer (some ⟨gx, 0, none⟩)))]) hF rfl rfl rfl rfl (hF.getEx (s := 13) rfl) hbx rfl sizeT46 (sl_one hs.sl _) (hF.keep [4]) rfl ?_
  intro w4 hF hbx' hkx
  replace hB := below_own hB hkx (by intro y hy; simp only [List.mem_singleton] at hy; omega)
  replace hs := hs.keeps hkx (seg_far hs hbx (by decide))
  refine' tlOp hF rfl rfl rfl ?_ ?_
  rotate_left
  · first | exact cMove rfl rfl | exact cAssign rfl rfl | exact cPickT rfl rfl rfl | exact cPickF rfl rfl rfl | exact cNot rfl rfl | exact cLss rfl rfl rfl | exact cLeq rfl rfl rfl | exact cGtr rfl rfl rfl | exact cGeq rfl rfl rfl | exact cEql rfl rfl rfl | exact cNeq rfl rfl rfl | exact cExtract rfl rfl rfl
  intro a w5 hF hb
  have hBs := hB.size
  replace hB := hB.trans (hb.mono hB.size)
  try (refine wpList_nil ?_)
  repeat with_reducible first | refine wp_seq ?_ | refine nThen ?_ | refine nBlk ?_ | refine wp_skip ?_ | refine wp_block ?_ | refine wp_exit ?_ | refine xThen ?_ | refine xHere ?_ | refine xFar (by decide) ?_ | refine wp_ret ?_ | refine rThen ?_ | refine rBlk ?_
  refine retCell2 hF rfl rfl rfl (hbx'.below hb) Try.underlying41 rfl sizeT46 ?_
  exact ⟨_, rfl, ⟨_, rfl, s, rfl, S, hs.below hb, fun y hy => Nat.le_trans hw2 (hS y hy)⟩, hB⟩
end Go.Proofs.Ytmlbkcpmgcjblaa

/- Layer 15 by types: Minus. -/
namespace Go.Proofs.Ytmlbkcpmgcjblaa
open Go.RowKit

/-- May one be taken from the other? -/
def minOk (sa sb : Nat) (A B : List Cl) : Bool := goodN (A.length : Int) && (decide (A.length = B.length) && decide (sa = sb))
def minL (sa sb : Nat) (A B : List Cl) : List Cl := if minOk sa sb A B then tminus A B else []
def minS (sa sb : Nat) (A B : List Cl) : Nat := if minOk sa sb A B then sa else 0
def minE (sa sb : Nat) (A B : List Cl) : Value := .int .i64 (if minOk sa sb A B then 0 else 1)
/-- A less B in the first i cells. -/
def mixM (A B : List Cl) (i : Nat) : List Cl := (tminus A B).take i ++ A.drop i
theorem mixM_len {A B : List Cl} (h : A.length = B.length) (i : Nat) : (mixM A B i).length = A.length := by
  unfold mixM
  rw [List.length_append, List.length_take, List.length_drop, tminus_len h]
  omega
theorem mixM_get {A B : List Cl} (h : A.length = B.length) {i : Nat} (hi : i < A.length) : (mixM A B i).getD i default = A.getD i default := by
  unfold mixM
  have hl : ((tminus A B).take i).length = i := by rw [List.length_take, tminus_len h]; omega
  simp only [List.getD]
  rw [List.getElem?_append_right (by omega), hl, Nat.sub_self, List.getElem?_drop]
  rfl
theorem mixM_set {A B : List Cl} (h : A.length = B.length) {i : Nat} (hi : i < A.length) : (mixM A B i).set i ((A.getD i default).minus (B.getD i default)) = mixM A B (i + 1) := by
  apply list_extD
  · rw [List.length_set, mixM_len h, mixM_len h]
  · intro j hj
    rw [List.length_set, mixM_len h] at hj
    have hm : ∀ k, j < k → k ≤ A.length → (mixM A B k).getD j default = (tminus A B).getD j default := fun k hk hkl => by
      unfold mixM
      simp only [List.getD]
      rw [List.getElem?_append_left (by rw [List.length_take, tminus_len h]; omega), List.getElem?_take, if_pos hk]
    have ha : ∀ k, k ≤ j → (mixM A B k).getD j default = A.getD j default := fun k hk => by
      unfold mixM
      have hl : ((tminus A B).take k).length = k := by rw [List.length_take, tminus_len h]; omega
      simp only [List.getD]
      rw [List.getElem?_append_right (by omega), hl, List.getElem?_drop]
      congr 2
      omega
    rw [getD_set_eq _ _ (by rw [mixM_len h]; exact hj)]
    by_cases hij : i = j
    · subst hij
      rw [if_pos rfl, hm (i + 1) (by omega) (by omega), tminus_get h hj]
    · rw [if_neg hij]
      by_cases hji : j < i
      · rw [hm i hji (by omega), hm (i + 1) (by omega) (by omega)]
      · rw [ha i (by omega), ha (i + 1) (by omega)]
theorem mixM_zero (A B : List Cl) : mixM A B 0 = A := by simp [mixM]
theorem mixM_all {A B : List Cl} (h : A.length = B.length) : mixM A B A.length = tminus A B := by
  unfold mixM
  rw [List.take_of_length_le (by rw [tminus_len h]; exact Nat.le_refl _), List.drop_of_length_le (Nat.le_refl _), List.append_nil]
set_option maxRecDepth 100000 in
set_option maxHeartbeats 2000000 in
theorem tminus_ty (sa sb : Nat) (A B : List Cl) : FnR2 Try.prog 32 (Ty.tab 87 sa A) (Ty.tab 87 sb B) (fun w => Ty.tabE w 87 (minS sa sb A B) (minL sa sb A B) (minE sa sb A B)) := by
  refine ⟨fun args w => by kernel_rfl, fun w v u ⟨s, hv, hs⟩ ⟨s2, hu, hs2⟩ => ?_⟩
  subst hv hu
  have hG := tgood_ty sa A
  refine enter_ty 56 [Ty.ex (.agg #[.int .u64 (sa : Int), s]), Ty.ex (.agg #[.int .u64 (sb : Int), s2])] Try.func32 rfl (by kernel_rfl) ⟨rfl, rfl, trivial⟩ fun a hF => ?_
  have hB := Below.refl w.heap.size w
  let TA := Ty.cls 87 A
  let TB := Ty.cls 87 B
  repeat with_reducible first | refine wp_seq ?_ | refine nThen ?_ | refine nBlk ?_ | refine wp_skip ?_ | refine wp_block ?_ | refine wp_exit ?_ | refine xThen ?_ | refine xHere ?_ | refine xFar (by decide) ?_ | refine wp_ret ?_ | refine rThen ?_ | refine rBlk ?_
  refine' reg_all hF ?_ mixed (by kernel_rfl) ?_
  rotate_left
  · repeat (first
        | exact Line.nil
        | (refine' Line.cons rfl (.no rfl rfl rfl rfl rfl rfl) ?_; rotate_left)
        | (refine' Line.cons rfl (.new rfl rfl (run_alloc_i infoT46) rfl) ?_; rotate_left)
        | ((first | refine' Line.cons rfl (.run rfl rfl ?_) ?_ | refine' Line.cons rfl (.yes rfl rfl rfl rfl ?_) ?_)
           any_goals (first | exact cMove rfl rfl | exact cAssign rfl rfl | exact cNot rfl rfl | exact cBoxTab rfl rfl | exact cPickT rfl rfl rfl | exact cPickF rfl rfl rfl | exact cLss rfl rfl rfl | exact cLeq rfl rfl rfl | exact cGtr rfl rfl rfl | exact cGeq rfl rfl rfl | exact cEql rfl rfl rfl | exact cNeq rfl rfl rfl | exact cExtract rfl rfl rfl)
           rotate_left))
  intro a w1 hF hb hN
  have hBs := hB.size
  replace hB := hB.trans (hb.mono hB.size)
  dsimp only [ext, Option.getD] at hF
  repeat with_reducible first | refine wp_seq ?_ | refine nThen ?_ | refine nBlk ?_ | refine wp_skip ?_ | refine wp_block ?_ | refine wp_exit ?_ | refine xThen ?_ | refine xHere ?_ | refine xFar (by decide) ?_ | refine wp_ret ?_ | refine rThen ?_ | refine rBlk ?_
  obtain ⟨z, ⟨g4, rfl, hg4, hb4⟩, hF⟩ := hF.open (s := 4) rfl
  have hs1 := TA.below hs hB
  have hs21 := TB.below hs2 hB
  have ht1 : (Ty.tab 87 sa A).p w1 (.agg #[.int .u64 (sa : Int), s]) := ⟨s, rfl, hs1⟩
  repeat with_reducible first | refine wp_seq ?_ | refine nThen ?_ | refine nBlk ?_ | refine wp_skip ?_ | refine wp_block ?_ | refine wp_exit ?_ | refine xThen ?_ | refine xHere ?_ | refine xFar (by decide) ?_ | refine wp_ret ?_ | refine rThen ?_ | refine rBlk ?_
  refine wp_mono (Q := fun e a w' => e = .normal ∧ Fr 56 [(2, Ty.at_ 41 [.int .u64 (sa : Int), s]), (3, Ty.at_ 41 [.int .u64 (sb : Int), s2]), (4, Ty.ex (.pointer (some ⟨g4, 0, none⟩))), (27, Ty.ex (.bool (!minOk sa sb A B)))] a w' ∧ Below w.heap.size w w' ∧ Blk w' g4 41 zeroT) ?_ ?_
  · unfold minOk
    by_cases h1 : goodN (A.length : Int) = true
    · rw [h1] at hG
      by_cases h2 : A.length = B.length
      · have e2 : (!decide ((A.length : Int) = (B.length : Int))) = false := by rw [decide_eq_true (by omega)]; rfl
        have e3 : (!decide ((sa : Int) = (sb : Int))) = !(goodN (A.length : Int) && (decide (A.length = B.length) && decide (sa = sb))) := by
          rw [h1, decide_eq_true h2, Bool.true_and, Bool.true_and, show decide ((sa : Int) = (sb : Int)) = decide (sa = sb) from decide_eq_decide.2 (by omega)]
        refine' reg_all hF ?_ mixed (by kernel_rfl) ?_
        rotate_left
        · repeat (first
              | exact Line.nil
              | (refine' Line.cons rfl (.no rfl rfl rfl rfl rfl rfl) ?_; rotate_left)
              | ((first | refine' Line.cons rfl (.run rfl rfl ?_) ?_ | refine' Line.cons rfl (.yes rfl rfl rfl rfl ?_) ?_)
                 any_goals (first | exact cMove rfl rfl | exact cAssign rfl rfl | exact cNot rfl rfl | exact cLoadT46 rfl (.t rfl) | exact cCallH1 rfl (.l rfl ht1) hG | exact cFldL46 rfl (.t rfl) | exact cRowOf46 rfl (.t rfl) | exact cLenH rfl (.l rfl hs1) (Ty.sl_isSl _ _ _) Try.underlying39 | exact cLenH rfl (.l rfl hs21) (Ty.sl_isSl _ _ _) Try.underlying39 | exact cFldS46 rfl (.t rfl) | exact cLoadU64 rfl (.t rfl) | exact OpOk.b (cNeq rfl rfl rfl) e2 | exact OpOk.b (cNeq rfl rfl rfl) e3 | exact cPickT rfl rfl rfl | exact cPickF rfl rfl rfl | exact cLss rfl rfl rfl | exact cLeq rfl rfl rfl | exact cGtr rfl rfl rfl | exact cGeq rfl rfl rfl | exact cEql rfl rfl rfl | exact cNeq rfl rfl rfl | exact cExtract rfl rfl rfl)
                 rotate_left))
        intro a w2 hF hb hN
        have hBs := hB.size
        replace hB := hB.trans (hb.mono hB.size)
        dsimp only [ext, Option.getD] at hF
        repeat with_reducible first | refine wp_seq ?_ | refine nThen ?_ | refine nBlk ?_ | refine wp_skip ?_ | refine wp_block ?_ | refine wp_exit ?_ | refine xThen ?_ | refine xHere ?_ | refine xFar (by decide) ?_ | refine wp_ret ?_ | refine rThen ?_ | refine rBlk ?_
        exact ⟨rfl, hF.keep [2, 3, 4, 27], hB, hb4.below hb⟩
      · have e2 : (!decide ((A.length : Int) = (B.length : Int))) = true := by rw [decide_eq_false (by omega)]; rfl
        have e3 : (!(goodN (A.length : Int) && (decide (A.length = B.length) && decide (sa = sb)))) = true := by rw [decide_eq_false h2, Bool.false_and, Bool.and_false]; rfl
        rw [e3]
        refine' reg_all hF ?_ mixed (by kernel_rfl) ?_
        rotate_left
        · repeat (first
              | exact Line.nil
              | (refine' Line.cons rfl (.no rfl rfl rfl rfl rfl rfl) ?_; rotate_left)
              | ((first | refine' Line.cons rfl (.run rfl rfl ?_) ?_ | refine' Line.cons rfl (.yes rfl rfl rfl rfl ?_) ?_)
                 any_goals (first | exact cMove rfl rfl | exact cAssign rfl rfl | exact cNot rfl rfl | exact cLoadT46 rfl (.t rfl) | exact cCallH1 rfl (.l rfl ht1) hG | exact cFldL46 rfl (.t rfl) | exact cRowOf46 rfl (.t rfl) | exact cLenH rfl (.l rfl hs1) (Ty.sl_isSl _ _ _) Try.underlying39 | exact cLenH rfl (.l rfl hs21) (Ty.sl_isSl _ _ _) Try.underlying39 | exact cFldS46 rfl (.t rfl) | exact cLoadU64 rfl (.t rfl) | exact OpOk.b (cNeq rfl rfl rfl) e2 | exact cPickT rfl rfl rfl | exact cPickF rfl rfl rfl | exact cLss rfl rfl rfl | exact cLeq rfl rfl rfl | exact cGtr rfl rfl rfl | exact cGeq rfl rfl rfl | exact cEql rfl rfl rfl | exact cNeq rfl rfl rfl | exact cExtract rfl rfl rfl)
                 rotate_left))
        intro a w2 hF hb hN
        have hBs := hB.size
        replace hB := hB.trans (hb.mono hB.size)
        dsimp only [ext, Option.getD] at hF
        repeat with_reducible first | refine wp_seq ?_ | refine nThen ?_ | refine nBlk ?_ | refine wp_skip ?_ | refine wp_block ?_ | refine wp_exit ?_ | refine xThen ?_ | refine xHere ?_ | refine xFar (by decide) ?_ | refine wp_ret ?_ | refine rThen ?_ | refine rBlk ?_
        exact ⟨rfl, hF.keep [2, 3, 4, 27], hB, hb4.below hb⟩
    · have h1 : goodN (A.length : Int) = false := by simpa using h1
      rw [h1] at hG ⊢
      refine' reg_all hF ?_ mixed (by kernel_rfl) ?_
      rotate_left
      · repeat (first
            | exact Line.nil
            | (refine' Line.cons rfl (.no rfl rfl rfl rfl rfl rfl) ?_; rotate_left)
            | ((first | refine' Line.cons rfl (.run rfl rfl ?_) ?_ | refine' Line.cons rfl (.yes rfl rfl rfl rfl ?_) ?_)
               any_goals (first | exact cMove rfl rfl | exact cAssign rfl rfl | exact cNot rfl rfl | exact cLoadT46 rfl (.t rfl) | exact cCallH1 rfl (.l rfl ht1) hG | exact cFldL46 rfl (.t rfl) | exact cRowOf46 rfl (.t rfl) | exact cLenH rfl (.l rfl hs1) (Ty.sl_isSl _ _ _) Try.underlying39 | exact cLenH rfl (.l rfl hs21) (Ty.sl_isSl _ _ _) Try.underlying39 | exact cFldS46 rfl (.t rfl) | exact cLoadU64 rfl (.t rfl) | exact cPickT rfl rfl rfl | exact cPickF rfl rfl rfl | exact cLss rfl rfl rfl | exact cLeq rfl rfl rfl | exact cGtr rfl rfl rfl | exact cGeq rfl rfl rfl | exact cEql rfl rfl rfl | exact cNeq rfl rfl rfl | exact cExtract rfl rfl rfl)
               rotate_left))
      intro a w2 hF hb hN
      have hBs := hB.size
      replace hB := hB.trans (hb.mono hB.size)
      dsimp only [ext, Option.getD] at hF
      repeat with_reducible first | refine wp_seq ?_ | refine nThen ?_ | refine nBlk ?_ | refine wp_skip ?_ | refine wp_block ?_ | refine wp_exit ?_ | refine xThen ?_ | refine xHere ?_ | refine xFar (by decide) ?_ | refine wp_ret ?_ | refine rThen ?_ | refine rBlk ?_
      exact ⟨rfl, hF.keep [2, 3, 4, 27], hB, hb4.below hb⟩
  clear hF hB hb4 hs1 hs21 ht1
  rintro e a w2 ⟨rfl, hF, hB, hb4⟩
  repeat with_reducible first | refine wp_seq ?_ | refine nThen ?_ | refine nBlk ?_ | refine wp_skip ?_ | refine wp_block ?_ | refine wp_exit ?_ | refine xThen ?_ | refine xHere ?_ | refine xFar (by decide) ?_ | refine wp_ret ?_ | refine rThen ?_ | refine rBlk ?_
  by_cases hok : minOk sa sb A B = true
  rotate_left
  · have hok : minOk sa sb A B = false := by simpa using hok
    have e1 : minS sa sb A B = 0 := by unfold minS; rw [hok]; rfl
    have e2 : minL sa sb A B = [] := by unfold minL; rw [hok]; rfl
    have e3 : minE sa sb A B = .int .i64 1 := by unfold minE; rw [hok]; rfl
    rw [hok] at hF
    rw [e1, e2, e3]
    refine cond_t hF rfl ?_
    repeat with_reducible first | refine wp_seq ?_ | refine nThen ?_ | refine nBlk ?_ | refine wp_skip ?_ | refine wp_block ?_ | refine wp_exit ?_ | refine xThen ?_ | refine xHere ?_ | refine xFar (by decide) ?_ | refine wp_ret ?_ | refine rThen ?_ | refine rBlk ?_
    refine' region_ty 1 mixed (by kernel_rfl) hF ?_ ?_
    rotate_left
    · simp only [List.take_succ_cons, List.take_zero]
      repeat (first
          | exact Line.nil
          | (refine' Line.cons rfl (.no rfl rfl rfl rfl rfl rfl) ?_; rotate_left)
          | ((first | refine' Line.cons rfl (.run rfl rfl ?_) ?_ | refine' Line.cons rfl (.yes rfl rfl rfl rfl ?_) ?_)
             any_goals (first | exact cMove rfl rfl | exact cAssign rfl rfl | exact cNot rfl rfl | exact cBuildE rfl (fun w => buildT046 w) | exact cPickT rfl rfl rfl | exact cPickF rfl rfl rfl | exact cLss rfl rfl rfl | exact cLeq rfl rfl rfl | exact cGtr rfl rfl rfl | exact cGeq rfl rfl rfl | exact cEql rfl rfl rfl | exact cNeq rfl rfl rfl | exact cExtract rfl rfl rfl)
             rotate_left))
    intro a w3 hF hb hN
    have hBs := hB.size
    replace hB := hB.trans (hb.mono hB.size)
    simp only [List.take_succ_cons, List.take_zero, List.drop_succ_cons, List.drop_zero] at hF hN ⊢
    dsimp only [ext, Option.getD] at hF
    replace hb4 := hb4.below hb
    refine tlStoreV (Δ := [(4, Ty.ex (.pointer (some ⟨g4, 0, none⟩)))]) hF rfl rfl rfl rfl (hF.getEx (s := 28) rfl) hb4 rfl sizeT46 (tabCells 0 _ _ _) (hF.keep [4]) rfl ?_
    intro w4 hF hb4 hkx
    replace hB := below_own hB hkx (by intro y hy; simp only [List.mem_singleton] at hy; omega)
    refine' tlOp hF rfl rfl rfl ?_ ?_
    rotate_left
    · first | exact cMove rfl rfl | exact cAssign rfl rfl | exact cPickT rfl rfl rfl | exact cPickF rfl rfl rfl | exact cNot rfl rfl | exact cLss rfl rfl rfl | exact cLeq rfl rfl rfl | exact cGtr rfl rfl rfl | exact cGeq rfl rfl rfl | exact cEql rfl rfl rfl | exact cNeq rfl rfl rfl | exact cExtract rfl rfl rfl
    intro a w5 hF hb
    have hBs := hB.size
    replace hB := hB.trans (hb.mono hB.size)
    try (refine wpList_nil ?_)
    repeat with_reducible first | refine wp_seq ?_ | refine nThen ?_ | refine nBlk ?_ | refine wp_skip ?_ | refine wp_block ?_ | refine wp_exit ?_ | refine xThen ?_ | refine xHere ?_ | refine xFar (by decide) ?_ | refine wp_ret ?_ | refine rThen ?_ | refine rBlk ?_
    replace hb4 := hb4.below hb
    refine retCell2 hF rfl rfl rfl hb4 Try.underlying41 rfl sizeT46 ?_
    exact ⟨_, rfl, ⟨_, rfl, _, rfl, [], Seg.nil _ _ _, by simp⟩, hB⟩
  have e1 : minS sa sb A B = sa := by unfold minS; rw [hok]; rfl
  have e2 : minL sa sb A B = tminus A B := by unfold minL; rw [hok]; rfl
  have e3 : minE sa sb A B = .int .i64 0 := by unfold minE; rw [hok]; rfl
  rw [hok] at hF
  rw [e1, e2, e3]
  clear e1 e2 e3
  unfold minOk at hok
  simp only [Bool.and_eq_true, decide_eq_true_eq] at hok
  obtain ⟨hgd, hlen, hse⟩ := hok
  subst hse
  obtain ⟨N, hN, hN1, hN2⟩ := goodN_rng hgd
  have hN : A.length = N := by omega
  refine cond_f hF rfl ?_
  repeat with_reducible first | refine wp_seq ?_ | refine nThen ?_ | refine nBlk ?_ | refine wp_skip ?_ | refine wp_block ?_ | refine wp_exit ?_ | refine xThen ?_ | refine xHere ?_ | refine xFar (by decide) ?_ | refine wp_ret ?_ | refine rThen ?_ | refine rBlk ?_
  obtain ⟨p2, hp2, hF⟩ := hF.open (s := 2) rfl
  obtain ⟨p3, hp3, hF⟩ := hF.open (s := 3) rfl
  have hsa := TA.below hs hB
  have hsb := TB.below hs2 hB
  have hw2 := hB.size
  have hlt4 := hb4.lt
  have hB0 := hB
  replace hB := Below.refl w2.heap.size w2
  clear hs hs2 hG
  refine' region_ty 7 mixed (by kernel_rfl) hF ?_ ?_
  rotate_left
  · simp only [List.take_succ_cons, List.take_zero]
    repeat (first
        | exact Line.nil
        | (refine' Line.cons rfl (.no rfl rfl rfl rfl rfl rfl) ?_; rotate_left)
        | (refine' Line.cons rfl (.new rfl rfl (run_alloc_i infoT46) rfl) ?_; rotate_left)
        | ((first | refine' Line.cons rfl (.run rfl rfl ?_) ?_ | refine' Line.cons rfl (.yes rfl rfl rfl rfl ?_) ?_)
           any_goals (first | exact cMove rfl rfl | exact cAssign rfl rfl | exact cNot rfl rfl | exact cFldS46 rfl (.l rfl hp2) | exact cLoadU64 rfl (.t rfl) | exact cFldL46 rfl (.l rfl hp2) | exact cRowOf46 rfl (.t rfl) | exact cCallS1 rfl (.l rfl hsa) (cloneC_ty A (by omega)) | exact cBuildTabO (L := A) rfl rfl rfl (fun s hs w => buildT46 _ hs w) | exact cPickT rfl rfl rfl | exact cPickF rfl rfl rfl | exact cLss rfl rfl rfl | exact cLeq rfl rfl rfl | exact cGtr rfl rfl rfl | exact cGeq rfl rfl rfl | exact cEql rfl rfl rfl | exact cNeq rfl rfl rfl | exact cExtract rfl rfl rfl)
           rotate_left))
  intro a w3 hF hb hN
  have hBs := hB.size
  replace hB := hB.trans (hb.mono hB.size)
  simp only [List.take_succ_cons, List.take_zero, List.drop_succ_cons, List.drop_zero] at hF hN ⊢
  dsimp only [ext, Option.getD] at hF
  obtain ⟨z, ⟨s6, rfl, S, hsg, hS⟩, hF⟩ := hF.open (s := 34) rfl
  obtain ⟨g, off, cap, rfl, rfl, hsl⟩ : ∃ g off cap, s6 = .slice (some ⟨g, off, none⟩) A.length cap ∧ S = [g] ∧ SegL w3 87 65 g off A.length cap (flatC A) := by
    rcases hsg.cases with ⟨_, h0, _⟩ | h
    · omega
    · exact h
  have hg : w2.heap.size ≤ g := hS g (by simp)
  obtain ⟨z, ⟨g6, rfl, hg6, hb6⟩, hF⟩ := hF.open (s := 6) rfl
  have hg6 : w2.heap.size ≤ g6 := hg6
  refine tlStoreV (Δ := [(2, Ty.ex p2), (3, Ty.ex p3), (4, Ty.ex (.pointer (some ⟨g4, 0, none⟩))), (6, Ty.ex (.pointer (some ⟨g6, 0, none⟩)))]) hF rfl rfl rfl rfl (hF.getEx (s := 34) rfl) hb6 rfl sizeT46 (sl_one hsg.sl _) (hF.keep [2, 3, 4, 6]) rfl ?_
  intro w4 hF hb6' hkx
  refine wpList_nil ?_
  replace hB := below_own hB hkx (by intro y hy; simp only [List.mem_singleton] at hy; omega)
  have hne : g ≠ g6 := fun h => by
    subst h
    obtain ⟨cs, fr, h1⟩ := hsl.block
    unfold Blk at hb6
    rw [hb6] at h1
    simp only [Option.some.injEq, Obj.cells.injEq] at h1
    exact absurd h1.2.1 (by decide)
  replace hsl := hsl.keeps hkx (by simpa using hne)
  replace hb6 : Blk w4 g6 41 #[.int .u64 (sa : Int), .slice (some ⟨g, off, none⟩) A.length cap] := hb6'
  clear hb6'
  clear hS hsg hkx
  have hpb := (Ty.at_ 41 [.int .u64 (sa : Int), s2]).below hp3 hB
  have hsb4 := TB.below hsb hB
  repeat with_reducible first | refine wp_seq ?_ | refine nThen ?_ | refine nBlk ?_ | refine wp_skip ?_ | refine wp_block ?_ | refine wp_exit ?_ | refine xThen ?_ | refine xHere ?_ | refine xFar (by decide) ?_ | refine wp_ret ?_ | refine rThen ?_ | refine rBlk ?_
  refine' reg_all hF ?_ mixed (by kernel_rfl) ?_
  rotate_left
  · repeat (first
        | exact Line.nil
        | (refine' Line.cons rfl (.no rfl rfl rfl rfl rfl rfl) ?_; rotate_left)
        | ((first | refine' Line.cons rfl (.run rfl rfl ?_) ?_ | refine' Line.cons rfl (.yes rfl rfl rfl rfl ?_) ?_)
           any_goals (first | exact cMove rfl rfl | exact cAssign rfl rfl | exact cNot rfl rfl | exact cFldL46 rfl (.l rfl hpb) | exact cRowOf46 rfl (.t rfl) | exact cLenH rfl (.l rfl hsb4) (Ty.sl_isSl _ _ _) Try.underlying39 | exact cPickT rfl rfl rfl | exact cPickF rfl rfl rfl | exact cLss rfl rfl rfl | exact cLeq rfl rfl rfl | exact cGtr rfl rfl rfl | exact cGeq rfl rfl rfl | exact cEql rfl rfl rfl | exact cNeq rfl rfl rfl | exact cExtract rfl rfl rfl)
           rotate_left))
  intro a w5 hF hb hN
  have hBs := hB.size
  replace hB := hB.trans (hb.mono hB.size)
  dsimp only [ext, Option.getD] at hF
  repeat with_reducible first | refine wp_seq ?_ | refine nThen ?_ | refine nBlk ?_ | refine wp_skip ?_ | refine wp_block ?_ | refine wp_exit ?_ | refine xThen ?_ | refine xHere ?_ | refine xFar (by decide) ?_ | refine wp_ret ?_ | refine rThen ?_ | refine rBlk ?_
  replace hsl := hsl.below hb
  replace hb6 := hb6.below hb
  refine loop_ty (fun m a wr => ∃ i : Nat, i + m = B.length ∧ Fr 56 [(4, Ty.ex (.pointer (some ⟨g4, 0, none⟩))), (6, Ty.ex (.pointer (some ⟨g6, 0, none⟩))), (36, Ty.ex s2), (37, Ty.ex (.int .i64 (B.length : Int))), (38, Ty.ex (.int .i64 (i : Int)))] a wr ∧ Below w2.heap.size w2 wr ∧ Blk wr g6 41 #[.int .u64 (sa : Int), .slice (some ⟨g, off, none⟩) A.length cap] ∧ SegL wr 87 65 g off A.length cap (flatC (mixM A B i))) B.length ?_ ?_
  · exact ⟨0, by omega, hF.keep [4, 6, 36, 37, 38], hB, hb6, by rw [mixM_zero]; exact hsl⟩
  clear hF hB hsl hb6
  rintro m a wr ⟨i, hi, hF, hB, hb6, hsl⟩
  repeat with_reducible first | refine wp_seq ?_ | refine nThen ?_ | refine nBlk ?_ | refine wp_skip ?_ | refine wp_block ?_ | refine wp_exit ?_ | refine xThen ?_ | refine xHere ?_ | refine xFar (by decide) ?_ | refine wp_ret ?_ | refine rThen ?_ | refine rBlk ?_
  refine' reg_all hF ?_ mixed (by kernel_rfl) ?_
  rotate_left
  · repeat (first
        | exact Line.nil
        | (refine' Line.cons rfl (.no rfl rfl rfl rfl rfl rfl) ?_; rotate_left)
        | ((first | refine' Line.cons rfl (.run rfl rfl ?_) ?_ | refine' Line.cons rfl (.yes rfl rfl rfl rfl ?_) ?_)
           any_goals (first | exact cMove rfl rfl | exact cAssign rfl rfl | exact cNot rfl rfl | exact cPickT rfl rfl rfl | exact cPickF rfl rfl rfl | exact cLss rfl rfl rfl | exact cLeq rfl rfl rfl | exact cGtr rfl rfl rfl | exact cGeq rfl rfl rfl | exact cEql rfl rfl rfl | exact cNeq rfl rfl rfl | exact cExtract rfl rfl rfl)
           rotate_left))
  intro a w6 hF hb hN
  have hBs := hB.size
  replace hB := hB.trans (hb.mono hB.size)
  dsimp only [ext, Option.getD] at hF
  repeat with_reducible first | refine wp_seq ?_ | refine nThen ?_ | refine nBlk ?_ | refine wp_skip ?_ | refine wp_block ?_ | refine wp_exit ?_ | refine xThen ?_ | refine xHere ?_ | refine xFar (by decide) ?_ | refine wp_ret ?_ | refine rThen ?_ | refine rBlk ?_
  replace hsl := hsl.below hb
  replace hb6 := hb6.below hb
  refine cond_ty hF rfl (fun hlt => ?_) (fun hge => ?_)
  · have hlt : i < B.length := by have := of_decide_eq_true hlt; omega
    have hsb6 := TB.below hsb hB
    have hw6 := hB.size
    have hsl0 := hsl
    repeat with_reducible first | refine wp_seq ?_ | refine nThen ?_ | refine nBlk ?_ | refine wp_skip ?_ | refine wp_block ?_ | refine wp_exit ?_ | refine xThen ?_ | refine xHere ?_ | refine xFar (by decide) ?_ | refine wp_ret ?_ | refine rThen ?_ | refine rBlk ?_
    refine' region_ty 5 mixed (by kernel_rfl) hF ?_ ?_
    rotate_left
    · simp only [List.take_succ_cons, List.take_zero]
      repeat (first
          | exact Line.nil
          | (refine' Line.cons rfl (.no rfl rfl rfl rfl rfl rfl) ?_; rotate_left)
          | (refine' Line.cons rfl (.new rfl rfl (run_alloc_i infoC34) rfl) ?_; rotate_left)
          | ((first | refine' Line.cons rfl (.run rfl rfl ?_) ?_ | refine' Line.cons rfl (.yes rfl rfl rfl rfl ?_) ?_)
             any_goals (first | exact cMove rfl rfl | exact cAssign rfl rfl | exact cNot rfl rfl | exact cIndexCl (k := i) rfl (.l rfl hsb6) rfl Try.underlying39 info34 hlt | exact cLoadCl34 rfl (.t rfl) | exact cPickT rfl rfl rfl | exact cPickF rfl rfl rfl | exact cLss rfl rfl rfl | exact cLeq rfl rfl rfl | exact cGtr rfl rfl rfl | exact cGeq rfl rfl rfl | exact cEql rfl rfl rfl | exact cNeq rfl rfl rfl | exact cExtract rfl rfl rfl)
             rotate_left))
    intro a w7 hF hb hN
    have hBs := hB.size
    replace hB := hB.trans (hb.mono hB.size)
    simp only [List.take_succ_cons, List.take_zero, List.drop_succ_cons, List.drop_zero] at hF hN ⊢
    dsimp only [ext, Option.getD] at hF
    replace hsl := hsl.below hb
    replace hb6 := hb6.below hb
    have hlg := hsl.lt
    obtain ⟨z, ⟨g8, rfl, hg8, hb8⟩, hF⟩ := hF.open (s := 8) rfl
    have hg8 : w6.heap.size ≤ g8 := hg8
    have hlt6 := hb6.lt
    have hg86 : g8 ≠ g6 := fun h => by subst h; exact absurd (hb8.ne hb6 (by decide)) (by simp)
    have hg8g : g ≠ g8 := by have := hsl0.lt; omega
    refine tlStoreV (Δ := [(4, Ty.ex (.pointer (some ⟨g4, 0, none⟩))), (6, Ty.ex (.pointer (some ⟨g6, 0, none⟩))), (7, Ty.ex (.int .i64 (i : Int))), (8, Ty.ex (.pointer (some ⟨g8, 0, none⟩))), (36, Ty.ex s2), (37, Ty.ex (.int .i64 (B.length : Int))), (38, Ty.ex (.int .i64 (i : Int)))]) hF rfl rfl rfl rfl (hF.getEx (s := 42) rfl) hb8 (clSz _ _) (by show _ = some (Cl.a _).size; rw [Cl.size]; exact info34) (Cl.one _) (hF.keep [4, 6, 7, 8, 36, 37, 38]) rfl ?_
    intro w8 hF hb8 hkx
    refine wpList_nil ?_
    replace hB := below_own hB hkx (by intro y hy; simp only [List.mem_singleton] at hy; omega)
    replace hsl := hsl.keeps hkx (by simpa using hg8g)
    replace hb6 := hb6.keeps hkx (by simpa using Ne.symm hg86)
    have h8 : (Ty.at_ 87 (B.getD i default).enc).p w8 (.pointer (some ⟨g8, 0, none⟩)) := blk_at hb8
    have h6 : (Ty.at_ 41 [.int .u64 (sa : Int), .slice (some ⟨g, off, none⟩) A.length cap]).p w8 (.pointer (some ⟨g6, 0, none⟩)) := blk_at hb6
    have hcell : (Ty.at_ 87 (A.getD i default).enc).p w8 (.pointer (some ⟨g, off + i * 65, none⟩)) := by
      obtain ⟨g', off', he, h⟩ := SlP.elem (k := i * 65) hsl.sl (by rw [flatC_len, mixM_len hlen]; omega)
      simp only [Option.some.injEq, Addr.mk.injEq] at he
      obtain ⟨rfl, rfl, _⟩ := he
      have h := h (i * 65)
      rw [flatC_at _ (by rw [mixM_len hlen]; omega), mixM_get hlen (by omega)] at h
      exact at_pre _ _ h
    clear hb8 hkx
    repeat with_reducible first | refine wp_seq ?_ | refine nThen ?_ | refine nBlk ?_ | refine wp_skip ?_ | refine wp_block ?_ | refine wp_exit ?_ | refine xThen ?_ | refine xHere ?_ | refine xFar (by decide) ?_ | refine wp_ret ?_ | refine rThen ?_ | refine rBlk ?_
    refine' region_ty 11 mixed (by kernel_rfl) hF ?_ ?_
    rotate_left
    · simp only [List.take_succ_cons, List.take_zero]
      repeat (first
          | exact Line.nil
          | (refine' Line.cons rfl (.no rfl rfl rfl rfl rfl rfl) ?_; rotate_left)
          | ((first | refine' Line.cons rfl (.run rfl rfl ?_) ?_ | refine' Line.cons rfl (.yes rfl rfl rfl rfl ?_) ?_)
             any_goals (first | exact cMove rfl rfl | exact cAssign rfl rfl | exact cNot rfl rfl | exact cFldL46 rfl (.l rfl h6) | exact cRowOf46 rfl (.t rfl) | exact cIndexEx (k := i) (sz := 65) rfl rfl rfl Try.underlying39 info34 (by omega) | exact cLoadCl34 rfl (.l rfl hcell) | exact cLoadCl34 rfl (.l rfl h8) | exact cCall2 rfl rfl rfl (cminus_ty _ _) | exact cPickT rfl rfl rfl | exact cPickF rfl rfl rfl | exact cLss rfl rfl rfl | exact cLeq rfl rfl rfl | exact cGtr rfl rfl rfl | exact cGeq rfl rfl rfl | exact cEql rfl rfl rfl | exact cNeq rfl rfl rfl | exact cExtract rfl rfl rfl)
             rotate_left))
    intro a w9 hF hb hN
    have hBs := hB.size
    replace hB := hB.trans (hb.mono hB.size)
    simp only [List.take_succ_cons, List.take_zero, List.drop_succ_cons, List.drop_zero] at hF hN ⊢
    dsimp only [ext, Option.getD] at hF
    replace hsl := hsl.below hb
    replace hb6 := hb6.below hb
    refine tlStoreAt (Δ := [(4, Ty.ex (.pointer (some ⟨g4, 0, none⟩))), (6, Ty.ex (.pointer (some ⟨g6, 0, none⟩))), (36, Ty.ex s2), (37, Ty.ex (.int .i64 (B.length : Int))), (38, Ty.ex (.int .i64 (i : Int)))]) (k := i * 65) hF rfl rfl rfl rfl rfl hsl (by rw [Cl.size]; omega) (by rw [Cl.size]; exact info34) (Cl.one _) (hF.keep [4, 6, 36, 37, 38]) rfl ?_
    intro w10 hF hsl hk10
    refine wpList_nil ?_
    replace hB := below_own hB hk10 (by intro y hy; simp only [List.mem_singleton] at hy; omega)
    replace hb6 := hb6.keeps hk10 (by simpa using Ne.symm hne)
    rw [show (((A.getD i default).minus (B.getD i default)).a).toList = ((A.getD i default).minus (B.getD i default)).enc from rfl, over_flatC _ _ (by rw [mixM_len hlen]; omega), mixM_set hlen (by omega)] at hsl
    repeat with_reducible first | refine wp_seq ?_ | refine nThen ?_ | refine nBlk ?_ | refine wp_skip ?_ | refine wp_block ?_ | refine wp_exit ?_ | refine xThen ?_ | refine xHere ?_ | refine xFar (by decide) ?_ | refine wp_ret ?_ | refine rThen ?_ | refine rBlk ?_
    refine' reg_all hF ?_ mixed (by kernel_rfl) ?_
    rotate_left
    · repeat (first
          | exact Line.nil
          | (refine' Line.cons rfl (.no rfl rfl rfl rfl rfl rfl) ?_; rotate_left)
          | ((first | refine' Line.cons rfl (.run rfl rfl ?_) ?_ | refine' Line.cons rfl (.yes rfl rfl rfl rfl ?_) ?_)
             any_goals (first | exact cMove rfl rfl | exact cAssign rfl rfl | exact cNot rfl rfl | exact cAdd (r := ((i + 1 : Nat) : Int)) rfl rfl rfl (by omega) | exact cPickT rfl rfl rfl | exact cPickF rfl rfl rfl | exact cLss rfl rfl rfl | exact cLeq rfl rfl rfl | exact cGtr rfl rfl rfl | exact cGeq rfl rfl rfl | exact cEql rfl rfl rfl | exact cNeq rfl rfl rfl | exact cExtract rfl rfl rfl)
             rotate_left))
    intro a w11 hF hb hN
    have hBs := hB.size
    replace hB := hB.trans (hb.mono hB.size)
    dsimp only [ext, Option.getD] at hF
    repeat with_reducible first | refine wp_seq ?_ | refine nThen ?_ | refine nBlk ?_ | refine wp_skip ?_ | refine wp_block ?_ | refine wp_exit ?_ | refine xThen ?_ | refine xHere ?_ | refine xFar (by decide) ?_ | refine wp_ret ?_ | refine rThen ?_ | refine rBlk ?_
    exact ⟨m - 1, by omega, i + 1, by omega, hF.keep [4, 6, 36, 37, 38], hB, hb6.below hb, hsl.below hb⟩
  have hge : ¬ i < B.length := by have := of_decide_eq_false hge; omega
  obtain rfl : i = A.length := by omega
  rw [mixM_all hlen] at hsl
  have h6 : (Ty.at_ 41 [.int .u64 (sa : Int), .slice (some ⟨g, off, none⟩) A.length cap]).p w6 (.pointer (some ⟨g6, 0, none⟩)) := blk_at hb6
  replace hb4 : Blk w6 g4 41 zeroT := hb4.below hB
  replace hB := hB0.trans (hB.mono hw2)
  have hg4 : w.heap.size ≤ g4 := hg4
  have hg46 : g4 ≠ g := by omega
  clear hb6
  repeat with_reducible first | refine wp_seq ?_ | refine nThen ?_ | refine nBlk ?_ | refine wp_skip ?_ | refine wp_block ?_ | refine wp_exit ?_ | refine xThen ?_ | refine xHere ?_ | refine xFar (by decide) ?_ | refine wp_ret ?_ | refine rThen ?_ | refine rBlk ?_
  refine wp_region_lit ?_
  refine' tlOp hF rfl rfl rfl ?_ ?_
  rotate_left
  · first | exact cLoadT46 rfl (.l rfl h6) | exact cMove rfl rfl | exact cAssign rfl rfl | exact cPickT rfl rfl rfl | exact cPickF rfl rfl rfl | exact cNot rfl rfl | exact cLss rfl rfl rfl | exact cLeq rfl rfl rfl | exact cGtr rfl rfl rfl | exact cGeq rfl rfl rfl | exact cEql rfl rfl rfl | exact cNeq rfl rfl rfl | exact cExtract rfl rfl rfl
  intro a w7 hF hb
  have hBs := hB.size
  replace hB := hB.trans (hb.mono hB.size)
  try (refine wpList_nil ?_)
  repeat with_reducible first | refine wp_seq ?_ | refine nThen ?_ | refine nBlk ?_ | refine wp_skip ?_ | refine wp_block ?_ | refine wp_exit ?_ | refine xThen ?_ | refine xHere ?_ | refine xFar (by decide) ?_ | refine wp_ret ?_ | refine rThen ?_ | refine rBlk ?_
  replace hb4 := hb4.below hb
  replace hsl := hsl.below hb
  refine tlStoreV (Δ := [(4, Ty.ex (.pointer (some ⟨g4, 0, none⟩)))]) hF rfl rfl rfl rfl (hF.getEx (s := 55) rfl) hb4 rfl sizeT46 (tabCells sa _ _ _) (hF.keep [4]) rfl ?_
  intro w8 hF hb4 hkx
  replace hB := below_own hB hkx (by intro y hy; simp only [List.mem_singleton] at hy; omega)
  replace hsl := hsl.keeps hkx (by simpa using Ne.symm hg46)
  refine' tlOp hF rfl rfl rfl ?_ ?_
  rotate_left
  · first | exact cMove rfl rfl | exact cAssign rfl rfl | exact cPickT rfl rfl rfl | exact cPickF rfl rfl rfl | exact cNot rfl rfl | exact cLss rfl rfl rfl | exact cLeq rfl rfl rfl | exact cGtr rfl rfl rfl | exact cGeq rfl rfl rfl | exact cEql rfl rfl rfl | exact cNeq rfl rfl rfl | exact cExtract rfl rfl rfl
  intro a w9 hF hb
  have hBs := hB.size
  replace hB := hB.trans (hb.mono hB.size)
  try (refine wpList_nil ?_)
  repeat with_reducible first | refine wp_seq ?_ | refine nThen ?_ | refine nBlk ?_ | refine wp_skip ?_ | refine wp_block ?_ | refine wp_exit ?_ | refine xThen ?_ | refine xHere ?_ | refine xFar (by decide) ?_ | refine wp_ret ?_ | refine rThen ?_ | refine rBlk ?_
  refine retCell2 hF rfl rfl rfl (hb4.below hb) Try.underlying41 rfl sizeT46 ?_
  refine ⟨_, rfl, ⟨_, rfl, _, rfl, [g], ?_, fun y hy => ?_⟩, hB⟩
  · rw [tminus_len hlen]
    exact (hsl.below hb).seg
  · simp only [List.mem_singleton] at hy
    omega
end Go.Proofs.Ytmlbkcpmgcjblaa

/- Layer 15 by types: Zero, the program's and the document's. -/
namespace Go.Proofs.Ytmlbkcpmgcjblaa
open Go.RowKit

/-- All cells are nought. -/
def allZ (L : List Cl) : Bool := L.all fun c => decide (c = Cl.zero)
theorem allZ_bad {L : List Cl} {k : Nat} (hk : k < L.length) (h : ¬ L.getD k default = Cl.zero) : allZ L = false := by
  unfold allZ
  rw [List.all_eq_false]
  exact ⟨L[k], List.getElem_mem hk, by simpa [List.getD, List.getElem?_eq_getElem hk] using h⟩
theorem allZ_all {L : List Cl} (h : ∀ k, k < L.length → L.getD k default = Cl.zero) : allZ L = true := by
  unfold allZ
  rw [List.all_eq_true]
  intro c hc
  obtain ⟨k, hk, rfl⟩ := List.getElem_of_mem hc
  simpa [List.getD, List.getElem?_eq_getElem hk] using h k hk
theorem allZ_iff {L : List Cl} : allZ L = true ↔ ∀ k, k < L.length → L.getD k default = Cl.zero := by
  refine ⟨fun h k hk => ?_, allZ_all⟩
  exact Classical.byContradiction fun hb => by rw [allZ_bad hk hb] at h; cases h
set_option maxRecDepth 100000 in
theorem zero1_ty (c : Cl) : Fn1 Try.prog 81 (Ty.ex (.agg c.a)) (Ty.ex (.bool (!decide (c = Cl.zero)))) := by
  refine ⟨fun args w => by kernel_rfl, fun w v hv => ?_⟩
  have hC := czero_ty c
  refine enter_ty 6 [Ty.ex (.agg c.a)] Try.func81 rfl (by kernel_rfl) ⟨hv, trivial⟩ fun a hF => ?_
  have hB := Below.refl w.heap.size w
  repeat with_reducible first | refine wp_seq ?_ | refine nThen ?_ | refine nBlk ?_ | refine wp_skip ?_ | refine wp_block ?_ | refine wp_exit ?_ | refine xThen ?_ | refine xHere ?_ | refine xFar (by decide) ?_ | refine wp_ret ?_ | refine rThen ?_ | refine rBlk ?_
  refine' reg_all hF ?_ mixed (by kernel_rfl) ?_
  rotate_left
  · repeat (first
        | exact Line.nil
        | (refine' Line.cons rfl (.no rfl rfl rfl rfl rfl rfl) ?_; rotate_left)
        | ((first | refine' Line.cons rfl (.run rfl rfl ?_) ?_ | refine' Line.cons rfl (.yes rfl rfl rfl rfl ?_) ?_)
           any_goals (first | exact cMove rfl rfl | exact cAssign rfl rfl | exact cNot rfl rfl | exact cBoxCl rfl rfl | exact cPickT rfl rfl rfl | exact cPickF rfl rfl rfl | exact cLss rfl rfl rfl | exact cLeq rfl rfl rfl | exact cGtr rfl rfl rfl | exact cGeq rfl rfl rfl | exact cEql rfl rfl rfl | exact cNeq rfl rfl rfl | exact cExtract rfl rfl rfl)
           rotate_left))
  intro a w1 hF hb hN
  have hBs := hB.size
  replace hB := hB.trans (hb.mono hB.size)
  dsimp only [ext, Option.getD] at hF
  repeat with_reducible first | refine wp_seq ?_ | refine nThen ?_ | refine nBlk ?_ | refine wp_skip ?_ | refine wp_block ?_ | refine wp_exit ?_ | refine xThen ?_ | refine xHere ?_ | refine xFar (by decide) ?_ | refine wp_ret ?_ | refine rThen ?_ | refine rBlk ?_
  refine' reg_all hF ?_ mixed (by kernel_rfl) ?_
  rotate_left
  · repeat (first
        | exact Line.nil
        | (refine' Line.cons rfl (.no rfl rfl rfl rfl rfl rfl) ?_; rotate_left)
        | ((first | refine' Line.cons rfl (.run rfl rfl ?_) ?_ | refine' Line.cons rfl (.yes rfl rfl rfl rfl ?_) ?_)
           any_goals (first | exact cMove rfl rfl | exact cAssign rfl rfl | exact cNot rfl rfl | exact cLoadCl34 rfl (.t rfl) | exact cCall1 rfl rfl hC | exact cPickT rfl rfl rfl | exact cPickF rfl rfl rfl | exact cLss rfl rfl rfl | exact cLeq rfl rfl rfl | exact cGtr rfl rfl rfl | exact cGeq rfl rfl rfl | exact cEql rfl rfl rfl | exact cNeq rfl rfl rfl | exact cExtract rfl rfl rfl)
           rotate_left))
  intro a w2 hF hb hN
  have hBs := hB.size
  replace hB := hB.trans (hb.mono hB.size)
  dsimp only [ext, Option.getD] at hF
  repeat with_reducible first | refine wp_seq ?_ | refine nThen ?_ | refine nBlk ?_ | refine wp_skip ?_ | refine wp_block ?_ | refine wp_exit ?_ | refine xThen ?_ | refine xHere ?_ | refine xFar (by decide) ?_ | refine wp_ret ?_ | refine rThen ?_ | refine rBlk ?_
  refine ret1 hF rfl rfl fun z hz => ?_
  exact ⟨z, rfl, hz, hB⟩
abbrev zeroFn : Value := .func (.func 81) #[] #[]
set_option maxRecDepth 100000 in
/-- The first that is not nought; -1. -/
theorem idxCl_ty (L : List Cl) (hL : L.length ≤ 1000000) : ∃ r : Int, (decide (0 ≤ r) = !allZ L) ∧ Fn2 Try.prog 110 (Ty.cls 87 L) (Ty.ex zeroFn) (Ty.ex (.int .i64 r)) := by
  by_cases hz : allZ L = true
  · refine ⟨-1, by rw [hz]; rfl, fun args w => by kernel_rfl, fun w v u hv hu => ?_⟩
    have hall := allZ_iff.1 hz
    let TL := Ty.cls 87 L
    refine enter_ty 19 [Ty.ex v, Ty.ex zeroFn] Try.func110 rfl (by kernel_rfl) ⟨rfl, hu, trivial⟩ fun a hF => ?_
    have hB := Below.refl w.heap.size w
    repeat with_reducible first | refine wp_seq ?_ | refine nThen ?_ | refine nBlk ?_ | refine wp_skip ?_ | refine wp_block ?_ | refine wp_exit ?_ | refine xThen ?_ | refine xHere ?_ | refine xFar (by decide) ?_ | refine wp_ret ?_ | refine rThen ?_ | refine rBlk ?_
    refine' reg_all hF ?_ mixed (by kernel_rfl) ?_
    rotate_left
    · repeat (first
          | exact Line.nil
          | (refine' Line.cons rfl (.no rfl rfl rfl rfl rfl rfl) ?_; rotate_left)
          | ((first | refine' Line.cons rfl (.run rfl rfl ?_) ?_ | refine' Line.cons rfl (.yes rfl rfl rfl rfl ?_) ?_)
             any_goals (first | exact cMove rfl rfl | exact cAssign rfl rfl | exact cNot rfl rfl | exact cPickT rfl rfl rfl | exact cPickF rfl rfl rfl | exact cLss rfl rfl rfl | exact cLeq rfl rfl rfl | exact cGtr rfl rfl rfl | exact cGeq rfl rfl rfl | exact cEql rfl rfl rfl | exact cNeq rfl rfl rfl | exact cExtract rfl rfl rfl)
             rotate_left))
    intro a w1 hF hb hN
    have hBs := hB.size
    replace hB := hB.trans (hb.mono hB.size)
    dsimp only [ext, Option.getD] at hF
    repeat with_reducible first | refine wp_seq ?_ | refine nThen ?_ | refine nBlk ?_ | refine wp_skip ?_ | refine wp_block ?_ | refine wp_exit ?_ | refine xThen ?_ | refine xHere ?_ | refine xFar (by decide) ?_ | refine wp_ret ?_ | refine rThen ?_ | refine rBlk ?_
    have hv1 := TL.below hv hB
    refine' reg_all hF ?_ mixed (by kernel_rfl) ?_
    rotate_left
    · repeat (first
          | exact Line.nil
          | (refine' Line.cons rfl (.no rfl rfl rfl rfl rfl rfl) ?_; rotate_left)
          | ((first | refine' Line.cons rfl (.run rfl rfl ?_) ?_ | refine' Line.cons rfl (.yes rfl rfl rfl rfl ?_) ?_)
             any_goals (first | exact cMove rfl rfl | exact cAssign rfl rfl | exact cNot rfl rfl | exact cLenH rfl (.l rfl hv1) (Ty.sl_isSl _ _ _) Try.underlying39 | exact cPickT rfl rfl rfl | exact cPickF rfl rfl rfl | exact cLss rfl rfl rfl | exact cLeq rfl rfl rfl | exact cGtr rfl rfl rfl | exact cGeq rfl rfl rfl | exact cEql rfl rfl rfl | exact cNeq rfl rfl rfl | exact cExtract rfl rfl rfl)
             rotate_left))
    intro a w2 hF hb hN
    have hBs := hB.size
    replace hB := hB.trans (hb.mono hB.size)
    dsimp only [ext, Option.getD] at hF
    repeat with_reducible first | refine wp_seq ?_ | refine nThen ?_ | refine nBlk ?_ | refine wp_skip ?_ | refine wp_block ?_ | refine wp_exit ?_ | refine xThen ?_ | refine xHere ?_ | refine xFar (by decide) ?_ | refine wp_ret ?_ | refine rThen ?_ | refine rBlk ?_
    refine loop_ty (fun m a wr => ∃ k : Nat, k + m = L.length ∧ Fr 19 [(0, Ty.ex v), (1, Ty.ex zeroFn), (7, Ty.ex (.int .i64 (L.length : Int))), (8, Ty.ex (.int .i64 (k : Int)))] a wr ∧ Below w.heap.size w wr) L.length ?_ ?_
    · exact ⟨0, by omega, hF.keep [0, 1, 7, 8], hB⟩
    clear hF hB hv1
    rintro m a wr ⟨k, hk, hF, hB⟩
    repeat with_reducible first | refine wp_seq ?_ | refine nThen ?_ | refine nBlk ?_ | refine wp_skip ?_ | refine wp_block ?_ | refine wp_exit ?_ | refine xThen ?_ | refine xHere ?_ | refine xFar (by decide) ?_ | refine wp_ret ?_ | refine rThen ?_ | refine rBlk ?_
    refine' reg_all hF ?_ mixed (by kernel_rfl) ?_
    rotate_left
    · repeat (first
          | exact Line.nil
          | (refine' Line.cons rfl (.no rfl rfl rfl rfl rfl rfl) ?_; rotate_left)
          | ((first | refine' Line.cons rfl (.run rfl rfl ?_) ?_ | refine' Line.cons rfl (.yes rfl rfl rfl rfl ?_) ?_)
             any_goals (first | exact cMove rfl rfl | exact cAssign rfl rfl | exact cNot rfl rfl | exact cPickT rfl rfl rfl | exact cPickF rfl rfl rfl | exact cLss rfl rfl rfl | exact cLeq rfl rfl rfl | exact cGtr rfl rfl rfl | exact cGeq rfl rfl rfl | exact cEql rfl rfl rfl | exact cNeq rfl rfl rfl | exact cExtract rfl rfl rfl)
             rotate_left))
    intro a w3 hF hb hN
    have hBs := hB.size
    replace hB := hB.trans (hb.mono hB.size)
    dsimp only [ext, Option.getD] at hF
    repeat with_reducible first | refine wp_seq ?_ | refine nThen ?_ | refine nBlk ?_ | refine wp_skip ?_ | refine wp_block ?_ | refine wp_exit ?_ | refine xThen ?_ | refine xHere ?_ | refine xFar (by decide) ?_ | refine wp_ret ?_ | refine rThen ?_ | refine rBlk ?_
    refine cond_ty hF rfl (fun hlt => ?_) (fun hge => ?_)
    · have hlt : k < L.length := by have := of_decide_eq_true hlt; omega
      have hC := zero1_ty (L.getD k default)
      rw [hall k hlt] at hC
      repeat with_reducible first | refine wp_seq ?_ | refine nThen ?_ | refine nBlk ?_ | refine wp_skip ?_ | refine wp_block ?_ | refine wp_exit ?_ | refine xThen ?_ | refine xHere ?_ | refine xFar (by decide) ?_ | refine wp_ret ?_ | refine rThen ?_ | refine rBlk ?_
      refine' reg_all hF ?_ mixed (by kernel_rfl) ?_
      rotate_left
      · repeat (first
            | exact Line.nil
            | (refine' Line.cons rfl (.no rfl rfl rfl rfl rfl rfl) ?_; rotate_left)
            | ((first | refine' Line.cons rfl (.run rfl rfl ?_) ?_ | refine' Line.cons rfl (.yes rfl rfl rfl rfl ?_) ?_)
               any_goals (first | exact cMove rfl rfl | exact cAssign rfl rfl | exact cNot rfl rfl | exact cPickT rfl rfl rfl | exact cPickF rfl rfl rfl | exact cLss rfl rfl rfl | exact cLeq rfl rfl rfl | exact cGtr rfl rfl rfl | exact cGeq rfl rfl rfl | exact cEql rfl rfl rfl | exact cNeq rfl rfl rfl | exact cExtract rfl rfl rfl)
               rotate_left))
      intro a w4 hF hb hN
      have hBs := hB.size
      replace hB := hB.trans (hb.mono hB.size)
      dsimp only [ext, Option.getD] at hF
      repeat with_reducible first | refine wp_seq ?_ | refine nThen ?_ | refine nBlk ?_ | refine wp_skip ?_ | refine wp_block ?_ | refine wp_exit ?_ | refine xThen ?_ | refine xHere ?_ | refine xFar (by decide) ?_ | refine wp_ret ?_ | refine rThen ?_ | refine rBlk ?_
      have hv4 := TL.below hv hB
      have hix : ∀ {Γ : Ctx} {o : Oper} {x ix : Operand} {kd : IntKind} (ho : o.op = .indexAddr 39 x ix) (hx : Has w4 Γ x (Ty.cls 87 L)) (hi : OpT Γ ix (Ty.ex (.int kd (k : Int)))), OpOk Try.prog w4 Γ o (Ty.at_ 87 Cl.zero.enc) := fun ho hx hi => by
        have h := cIndexCl (P := Try.prog) (k := k) ho hx hi Try.underlying39 info34 hlt
        rwa [hall k hlt] at h
      refine' reg_all hF ?_ mixed (by kernel_rfl) ?_
      rotate_left
      · repeat (first
            | exact Line.nil
            | (refine' Line.cons rfl (.no rfl rfl rfl rfl rfl rfl) ?_; rotate_left)
            | ((first | refine' Line.cons rfl (.run rfl rfl ?_) ?_ | refine' Line.cons rfl (.yes rfl rfl rfl rfl ?_) ?_)
               any_goals (first | exact cMove rfl rfl | exact cAssign rfl rfl | exact cNot rfl rfl | exact hix rfl (.l rfl hv4) rfl | exact cLoadCl34 rfl (.t rfl) | exact OpOk.b (c := false) (cCallV1 rfl rfl (.t rfl) hC) (by decide) | exact cPickT rfl rfl rfl | exact cPickF rfl rfl rfl | exact cLss rfl rfl rfl | exact cLeq rfl rfl rfl | exact cGtr rfl rfl rfl | exact cGeq rfl rfl rfl | exact cEql rfl rfl rfl | exact cNeq rfl rfl rfl | exact cExtract rfl rfl rfl)
               rotate_left))
      intro a w5 hF hb hN
      have hBs := hB.size
      replace hB := hB.trans (hb.mono hB.size)
      dsimp only [ext, Option.getD] at hF
      repeat with_reducible first | refine wp_seq ?_ | refine nThen ?_ | refine nBlk ?_ | refine wp_skip ?_ | refine wp_block ?_ | refine wp_exit ?_ | refine xThen ?_ | refine xHere ?_ | refine xFar (by decide) ?_ | refine wp_ret ?_ | refine rThen ?_ | refine rBlk ?_
      refine cond_f hF rfl ?_
      repeat with_reducible first | refine wp_seq ?_ | refine nThen ?_ | refine nBlk ?_ | refine wp_skip ?_ | refine wp_block ?_ | refine wp_exit ?_ | refine xThen ?_ | refine xHere ?_ | refine xFar (by decide) ?_ | refine wp_ret ?_ | refine rThen ?_ | refine rBlk ?_
      refine' reg_all hF ?_ mixed (by kernel_rfl) ?_
      rotate_left
      · repeat (first
            | exact Line.nil
            | (refine' Line.cons rfl (.no rfl rfl rfl rfl rfl rfl) ?_; rotate_left)
            | ((first | refine' Line.cons rfl (.run rfl rfl ?_) ?_ | refine' Line.cons rfl (.yes rfl rfl rfl rfl ?_) ?_)
               any_goals (first | exact cMove rfl rfl | exact cAssign rfl rfl | exact cNot rfl rfl | exact cAdd (r := ((k + 1 : Nat) : Int)) rfl rfl rfl (by omega) | exact cPickT rfl rfl rfl | exact cPickF rfl rfl rfl | exact cLss rfl rfl rfl | exact cLeq rfl rfl rfl | exact cGtr rfl rfl rfl | exact cGeq rfl rfl rfl | exact cEql rfl rfl rfl | exact cNeq rfl rfl rfl | exact cExtract rfl rfl rfl)
               rotate_left))
      intro a w6 hF hb hN
      have hBs := hB.size
      replace hB := hB.trans (hb.mono hB.size)
      dsimp only [ext, Option.getD] at hF
      repeat with_reducible first | refine wp_seq ?_ | refine nThen ?_ | refine nBlk ?_ | refine wp_skip ?_ | refine wp_block ?_ | refine wp_exit ?_ | refine xThen ?_ | refine xHere ?_ | refine xFar (by decide) ?_ | refine wp_ret ?_ | refine rThen ?_ | refine rBlk ?_
      exact ⟨m - 1, by omega, k + 1, by omega, hF.keep [0, 1, 7, 8], hB⟩
    · have hge : ¬ k < L.length := by have := of_decide_eq_false hge; omega
      repeat with_reducible first | refine wp_seq ?_ | refine nThen ?_ | refine nBlk ?_ | refine wp_skip ?_ | refine wp_block ?_ | refine wp_exit ?_ | refine xThen ?_ | refine xHere ?_ | refine xFar (by decide) ?_ | refine wp_ret ?_ | refine rThen ?_ | refine rBlk ?_
      refine' reg_all hF ?_ mixed (by kernel_rfl) ?_
      rotate_left
      · repeat (first
            | exact Line.nil
            | (refine' Line.cons rfl (.no rfl rfl rfl rfl rfl rfl) ?_; rotate_left)
            | ((first | refine' Line.cons rfl (.run rfl rfl ?_) ?_ | refine' Line.cons rfl (.yes rfl rfl rfl rfl ?_) ?_)
               any_goals (first | exact cMove rfl rfl | exact cAssign rfl rfl | exact cNot rfl rfl | exact cPickT rfl rfl rfl | exact cPickF rfl rfl rfl | exact cLss rfl rfl rfl | exact cLeq rfl rfl rfl | exact cGtr rfl rfl rfl | exact cGeq rfl rfl rfl | exact cEql rfl rfl rfl | exact cNeq rfl rfl rfl | exact cExtract rfl rfl rfl)
               rotate_left))
      intro a w4 hF hb hN
      have hBs := hB.size
      replace hB := hB.trans (hb.mono hB.size)
      dsimp only [ext, Option.getD] at hF
      repeat with_reducible first | refine wp_seq ?_ | refine nThen ?_ | refine nBlk ?_ | refine wp_skip ?_ | refine wp_block ?_ | refine wp_exit ?_ | refine xThen ?_ | refine xHere ?_ | refine xFar (by decide) ?_ | refine wp_ret ?_ | refine rThen ?_ | refine rBlk ?_
      refine ret1 hF rfl rfl fun z hz => ?_
      exact ⟨z, rfl, hz, hB⟩
  · have hz : allZ L = false := by simpa using hz
    obtain ⟨k0, hk0, hne0, hlo⟩ : ∃ k, k < L.length ∧ ¬ L.getD k default = Cl.zero ∧ ∀ j, j < k → L.getD j default = Cl.zero := by
      have hex : ∃ k, k < L.length ∧ ¬ L.getD k default = Cl.zero := Classical.byContradiction fun h => by
        have : allZ L = true := allZ_all fun k hk => Classical.byContradiction fun hb => h ⟨k, hk, hb⟩
        rw [this] at hz; cases hz
      have key : ∀ n, (∃ k, k < n ∧ k < L.length ∧ ¬ L.getD k default = Cl.zero) → ∃ k, k < L.length ∧ ¬ L.getD k default = Cl.zero ∧ ∀ j, j < k → L.getD j default = Cl.zero := by
        intro n
        induction n with
        | zero => rintro ⟨k, h, _⟩; omega
        | succ n ih =>
          rintro ⟨k, h1, h2, h3⟩
          by_cases hn : ∃ k, k < n ∧ k < L.length ∧ ¬ L.getD k default = Cl.zero
          · exact ih hn
          · refine ⟨k, h2, h3, fun j hj => Classical.byContradiction fun hb => hn ⟨j, by omega, by omega, hb⟩⟩
      obtain ⟨k, h1, h2⟩ := hex
      exact key (k + 1) ⟨k, by omega, h1, h2⟩
    refine ⟨(k0 : Int), by rw [hz]; exact decide_eq_true (by omega), fun args w => by kernel_rfl, fun w v u hv hu => ?_⟩
    let TL := Ty.cls 87 L
    refine enter_ty 19 [Ty.ex v, Ty.ex zeroFn] Try.func110 rfl (by kernel_rfl) ⟨rfl, hu, trivial⟩ fun a hF => ?_
    have hB := Below.refl w.heap.size w
    repeat with_reducible first | refine wp_seq ?_ | refine nThen ?_ | refine nBlk ?_ | refine wp_skip ?_ | refine wp_block ?_ | refine wp_exit ?_ | refine xThen ?_ | refine xHere ?_ | refine xFar (by decide) ?_ | refine wp_ret ?_ | refine rThen ?_ | refine rBlk ?_
    refine' reg_all hF ?_ mixed (by kernel_rfl) ?_
    rotate_left
    · repeat (first
          | exact Line.nil
          | (refine' Line.cons rfl (.no rfl rfl rfl rfl rfl rfl) ?_; rotate_left)
          | ((first | refine' Line.cons rfl (.run rfl rfl ?_) ?_ | refine' Line.cons rfl (.yes rfl rfl rfl rfl ?_) ?_)
             any_goals (first | exact cMove rfl rfl | exact cAssign rfl rfl | exact cNot rfl rfl | exact cPickT rfl rfl rfl | exact cPickF rfl rfl rfl | exact cLss rfl rfl rfl | exact cLeq rfl rfl rfl | exact cGtr rfl rfl rfl | exact cGeq rfl rfl rfl | exact cEql rfl rfl rfl | exact cNeq rfl rfl rfl | exact cExtract rfl rfl rfl)
             rotate_left))
    intro a w1 hF hb hN
    have hBs := hB.size
    replace hB := hB.trans (hb.mono hB.size)
    dsimp only [ext, Option.getD] at hF
    repeat with_reducible first | refine wp_seq ?_ | refine nThen ?_ | refine nBlk ?_ | refine wp_skip ?_ | refine wp_block ?_ | refine wp_exit ?_ | refine xThen ?_ | refine xHere ?_ | refine xFar (by decide) ?_ | refine wp_ret ?_ | refine rThen ?_ | refine rBlk ?_
    have hv1 := TL.below hv hB
    refine' reg_all hF ?_ mixed (by kernel_rfl) ?_
    rotate_left
    · repeat (first
          | exact Line.nil
          | (refine' Line.cons rfl (.no rfl rfl rfl rfl rfl rfl) ?_; rotate_left)
          | ((first | refine' Line.cons rfl (.run rfl rfl ?_) ?_ | refine' Line.cons rfl (.yes rfl rfl rfl rfl ?_) ?_)
             any_goals (first | exact cMove rfl rfl | exact cAssign rfl rfl | exact cNot rfl rfl | exact cLenH rfl (.l rfl hv1) (Ty.sl_isSl _ _ _) Try.underlying39 | exact cPickT rfl rfl rfl | exact cPickF rfl rfl rfl | exact cLss rfl rfl rfl | exact cLeq rfl rfl rfl | exact cGtr rfl rfl rfl | exact cGeq rfl rfl rfl | exact cEql rfl rfl rfl | exact cNeq rfl rfl rfl | exact cExtract rfl rfl rfl)
             rotate_left))
    intro a w2 hF hb hN
    have hBs := hB.size
    replace hB := hB.trans (hb.mono hB.size)
    dsimp only [ext, Option.getD] at hF
    repeat with_reducible first | refine wp_seq ?_ | refine nThen ?_ | refine nBlk ?_ | refine wp_skip ?_ | refine wp_block ?_ | refine wp_exit ?_ | refine xThen ?_ | refine xHere ?_ | refine xFar (by decide) ?_ | refine wp_ret ?_ | refine rThen ?_ | refine rBlk ?_
    refine loop_ty (fun m a wr => ∃ k : Nat, k + m = L.length ∧ k ≤ k0 ∧ Fr 19 [(0, Ty.ex v), (1, Ty.ex zeroFn), (7, Ty.ex (.int .i64 (L.length : Int))), (8, Ty.ex (.int .i64 (k : Int)))] a wr ∧ Below w.heap.size w wr) L.length ?_ ?_
    · exact ⟨0, by omega, by omega, hF.keep [0, 1, 7, 8], hB⟩
    clear hF hB hv1
    rintro m a wr ⟨k, hk, hk2, hF, hB⟩
    repeat with_reducible first | refine wp_seq ?_ | refine nThen ?_ | refine nBlk ?_ | refine wp_skip ?_ | refine wp_block ?_ | refine wp_exit ?_ | refine xThen ?_ | refine xHere ?_ | refine xFar (by decide) ?_ | refine wp_ret ?_ | refine rThen ?_ | refine rBlk ?_
    refine' reg_all hF ?_ mixed (by kernel_rfl) ?_
    rotate_left
    · repeat (first
          | exact Line.nil
          | (refine' Line.cons rfl (.no rfl rfl rfl rfl rfl rfl) ?_; rotate_left)
          | ((first | refine' Line.cons rfl (.run rfl rfl ?_) ?_ | refine' Line.cons rfl (.yes rfl rfl rfl rfl ?_) ?_)
             any_goals (first | exact cMove rfl rfl | exact cAssign rfl rfl | exact cNot rfl rfl | exact OpOk.b (c := true) (cLss rfl rfl rfl) (decide_eq_true (by omega)) | exact cPickT rfl rfl rfl | exact cPickF rfl rfl rfl | exact cLss rfl rfl rfl | exact cLeq rfl rfl rfl | exact cGtr rfl rfl rfl | exact cGeq rfl rfl rfl | exact cEql rfl rfl rfl | exact cNeq rfl rfl rfl | exact cExtract rfl rfl rfl)
             rotate_left))
    intro a w3 hF hb hN
    have hBs := hB.size
    replace hB := hB.trans (hb.mono hB.size)
    dsimp only [ext, Option.getD] at hF
    repeat with_reducible first | refine wp_seq ?_ | refine nThen ?_ | refine nBlk ?_ | refine wp_skip ?_ | refine wp_block ?_ | refine wp_exit ?_ | refine xThen ?_ | refine xHere ?_ | refine xFar (by decide) ?_ | refine wp_ret ?_ | refine rThen ?_ | refine rBlk ?_
    refine cond_t hF rfl ?_
    have hC := zero1_ty (L.getD k default)
    repeat with_reducible first | refine wp_seq ?_ | refine nThen ?_ | refine nBlk ?_ | refine wp_skip ?_ | refine wp_block ?_ | refine wp_exit ?_ | refine xThen ?_ | refine xHere ?_ | refine xFar (by decide) ?_ | refine wp_ret ?_ | refine rThen ?_ | refine rBlk ?_
    refine' reg_all hF ?_ mixed (by kernel_rfl) ?_
    rotate_left
    · repeat (first
          | exact Line.nil
          | (refine' Line.cons rfl (.no rfl rfl rfl rfl rfl rfl) ?_; rotate_left)
          | ((first | refine' Line.cons rfl (.run rfl rfl ?_) ?_ | refine' Line.cons rfl (.yes rfl rfl rfl rfl ?_) ?_)
             any_goals (first | exact cMove rfl rfl | exact cAssign rfl rfl | exact cNot rfl rfl | exact cPickT rfl rfl rfl | exact cPickF rfl rfl rfl | exact cLss rfl rfl rfl | exact cLeq rfl rfl rfl | exact cGtr rfl rfl rfl | exact cGeq rfl rfl rfl | exact cEql rfl rfl rfl | exact cNeq rfl rfl rfl | exact cExtract rfl rfl rfl)
             rotate_left))
    intro a w4 hF hb hN
    have hBs := hB.size
    replace hB := hB.trans (hb.mono hB.size)
    dsimp only [ext, Option.getD] at hF
    repeat with_reducible first | refine wp_seq ?_ | refine nThen ?_ | refine nBlk ?_ | refine wp_skip ?_ | refine wp_block ?_ | refine wp_exit ?_ | refine xThen ?_ | refine xHere ?_ | refine xFar (by decide) ?_ | refine wp_ret ?_ | refine rThen ?_ | refine rBlk ?_
    have hv4 := TL.below hv hB
    refine' reg_all hF ?_ mixed (by kernel_rfl) ?_
    rotate_left
    · repeat (first
          | exact Line.nil
          | (refine' Line.cons rfl (.no rfl rfl rfl rfl rfl rfl) ?_; rotate_left)
          | ((first | refine' Line.cons rfl (.run rfl rfl ?_) ?_ | refine' Line.cons rfl (.yes rfl rfl rfl rfl ?_) ?_)
             any_goals (first | exact cMove rfl rfl | exact cAssign rfl rfl | exact cNot rfl rfl | exact cIndexCl (k := k) rfl (.l rfl hv4) rfl Try.underlying39 info34 (by omega) | exact cLoadCl34 rfl (.t rfl) | exact cCallV1 rfl rfl (.t rfl) hC | exact cPickT rfl rfl rfl | exact cPickF rfl rfl rfl | exact cLss rfl rfl rfl | exact cLeq rfl rfl rfl | exact cGtr rfl rfl rfl | exact cGeq rfl rfl rfl | exact cEql rfl rfl rfl | exact cNeq rfl rfl rfl | exact cExtract rfl rfl rfl)
             rotate_left))
    intro a w5 hF hb hN
    have hBs := hB.size
    replace hB := hB.trans (hb.mono hB.size)
    dsimp only [ext, Option.getD] at hF
    repeat with_reducible first | refine wp_seq ?_ | refine nThen ?_ | refine nBlk ?_ | refine wp_skip ?_ | refine wp_block ?_ | refine wp_exit ?_ | refine xThen ?_ | refine xHere ?_ | refine xFar (by decide) ?_ | refine wp_ret ?_ | refine rThen ?_ | refine rBlk ?_
    refine cond_ty hF rfl (fun hin => ?_) (fun hout => ?_)
    · have hkk : k = k0 := Classical.byContradiction fun h => by
        rw [hlo k (by omega)] at hin
        simp at hin
      subst hkk
      repeat with_reducible first | refine wp_seq ?_ | refine nThen ?_ | refine nBlk ?_ | refine wp_skip ?_ | refine wp_block ?_ | refine wp_exit ?_ | refine xThen ?_ | refine xHere ?_ | refine xFar (by decide) ?_ | refine wp_ret ?_ | refine rThen ?_ | refine rBlk ?_
      refine' reg_all hF ?_ mixed (by kernel_rfl) ?_
      rotate_left
      · repeat (first
            | exact Line.nil
            | (refine' Line.cons rfl (.no rfl rfl rfl rfl rfl rfl) ?_; rotate_left)
            | ((first | refine' Line.cons rfl (.run rfl rfl ?_) ?_ | refine' Line.cons rfl (.yes rfl rfl rfl rfl ?_) ?_)
               any_goals (first | exact cMove rfl rfl | exact cAssign rfl rfl | exact cNot rfl rfl | exact cPickT rfl rfl rfl | exact cPickF rfl rfl rfl | exact cLss rfl rfl rfl | exact cLeq rfl rfl rfl | exact cGtr rfl rfl rfl | exact cGeq rfl rfl rfl | exact cEql rfl rfl rfl | exact cNeq rfl rfl rfl | exact cExtract rfl rfl rfl)
               rotate_left))
      intro a w6 hF hb hN
      have hBs := hB.size
      replace hB := hB.trans (hb.mono hB.size)
      dsimp only [ext, Option.getD] at hF
      repeat with_reducible first | refine wp_seq ?_ | refine nThen ?_ | refine nBlk ?_ | refine wp_skip ?_ | refine wp_block ?_ | refine wp_exit ?_ | refine xThen ?_ | refine xHere ?_ | refine xFar (by decide) ?_ | refine wp_ret ?_ | refine rThen ?_ | refine rBlk ?_
      refine ret1 hF rfl rfl fun z hz => ?_
      exact ⟨z, rfl, hz, hB⟩
    · have hkk : k < k0 := Classical.byContradiction fun h => by
        obtain rfl : k = k0 := by omega
        simp at hout
        exact hne0 (by simpa [List.getD] using hout)
      repeat with_reducible first | refine wp_seq ?_ | refine nThen ?_ | refine nBlk ?_ | refine wp_skip ?_ | refine wp_block ?_ | refine wp_exit ?_ | refine xThen ?_ | refine xHere ?_ | refine xFar (by decide) ?_ | refine wp_ret ?_ | refine rThen ?_ | refine rBlk ?_
      refine' reg_all hF ?_ mixed (by kernel_rfl) ?_
      rotate_left
      · repeat (first
            | exact Line.nil
            | (refine' Line.cons rfl (.no rfl rfl rfl rfl rfl rfl) ?_; rotate_left)
            | ((first | refine' Line.cons rfl (.run rfl rfl ?_) ?_ | refine' Line.cons rfl (.yes rfl rfl rfl rfl ?_) ?_)
               any_goals (first | exact cMove rfl rfl | exact cAssign rfl rfl | exact cNot rfl rfl | exact cAdd (r := ((k + 1 : Nat) : Int)) rfl rfl rfl (by omega) | exact cPickT rfl rfl rfl | exact cPickF rfl rfl rfl | exact cLss rfl rfl rfl | exact cLeq rfl rfl rfl | exact cGtr rfl rfl rfl | exact cGeq rfl rfl rfl | exact cEql rfl rfl rfl | exact cNeq rfl rfl rfl | exact cExtract rfl rfl rfl)
               rotate_left))
      intro a w6 hF hb hN
      have hBs := hB.size
      replace hB := hB.trans (hb.mono hB.size)
      dsimp only [ext, Option.getD] at hF
      repeat with_reducible first | refine wp_seq ?_ | refine nThen ?_ | refine nBlk ?_ | refine wp_skip ?_ | refine wp_block ?_ | refine wp_exit ?_ | refine xThen ?_ | refine xHere ?_ | refine xFar (by decide) ?_ | refine wp_ret ?_ | refine rThen ?_ | refine rBlk ?_
      exact ⟨m - 1, by omega, k + 1, by omega, by omega, hF.keep [0, 1, 7, 8], hB⟩
set_option maxRecDepth 100000 in
theorem contCl_ty (L : List Cl) (hL : L.length ≤ 1000000) : Fn2 Try.prog 80 (Ty.cls 87 L) (Ty.ex zeroFn) (Ty.ex (.bool (!allZ L))) := by
  obtain ⟨r, hr, hI⟩ := idxCl_ty L hL
  refine ⟨fun args w => by kernel_rfl, fun w v u hv hu => ?_⟩
  refine enter_ty 9 [Ty.ex v, Ty.ex zeroFn] Try.func80 rfl (by kernel_rfl) ⟨rfl, hu, trivial⟩ fun a hF => ?_
  have hB := Below.refl w.heap.size w
  repeat with_reducible first | refine wp_seq ?_ | refine nThen ?_ | refine nBlk ?_ | refine wp_skip ?_ | refine wp_block ?_ | refine wp_exit ?_ | refine xThen ?_ | refine xHere ?_ | refine xFar (by decide) ?_ | refine wp_ret ?_ | refine rThen ?_ | refine rBlk ?_
  refine' reg_all hF ?_ mixed (by kernel_rfl) ?_
  rotate_left
  · repeat (first
        | exact Line.nil
        | (refine' Line.cons rfl (.no rfl rfl rfl rfl rfl rfl) ?_; rotate_left)
        | ((first | refine' Line.cons rfl (.run rfl rfl ?_) ?_ | refine' Line.cons rfl (.yes rfl rfl rfl rfl ?_) ?_)
           any_goals (first | exact cMove rfl rfl | exact cAssign rfl rfl | exact cNot rfl rfl | exact cPickT rfl rfl rfl | exact cPickF rfl rfl rfl | exact cLss rfl rfl rfl | exact cLeq rfl rfl rfl | exact cGtr rfl rfl rfl | exact cGeq rfl rfl rfl | exact cEql rfl rfl rfl | exact cNeq rfl rfl rfl | exact cExtract rfl rfl rfl)
           rotate_left))
  intro a w1 hF hb hN
  have hBs := hB.size
  replace hB := hB.trans (hb.mono hB.size)
  dsimp only [ext, Option.getD] at hF
  repeat with_reducible first | refine wp_seq ?_ | refine nThen ?_ | refine nBlk ?_ | refine wp_skip ?_ | refine wp_block ?_ | refine wp_exit ?_ | refine xThen ?_ | refine xHere ?_ | refine xFar (by decide) ?_ | refine wp_ret ?_ | refine rThen ?_ | refine rBlk ?_
  have hv1 := (Ty.cls 87 L).below hv hB
  refine' reg_all hF ?_ mixed (by kernel_rfl) ?_
  rotate_left
  · repeat (first
        | exact Line.nil
        | (refine' Line.cons rfl (.no rfl rfl rfl rfl rfl rfl) ?_; rotate_left)
        | ((first | refine' Line.cons rfl (.run rfl rfl ?_) ?_ | refine' Line.cons rfl (.yes rfl rfl rfl rfl ?_) ?_)
           any_goals (first | exact cMove rfl rfl | exact cAssign rfl rfl | exact cNot rfl rfl | exact cCallH2 rfl (.l rfl hv1) (.t rfl) hI | exact OpOk.b (cGeq rfl rfl rfl) hr | exact cPickT rfl rfl rfl | exact cPickF rfl rfl rfl | exact cLss rfl rfl rfl | exact cLeq rfl rfl rfl | exact cGtr rfl rfl rfl | exact cGeq rfl rfl rfl | exact cEql rfl rfl rfl | exact cNeq rfl rfl rfl | exact cExtract rfl rfl rfl)
           rotate_left))
  intro a w2 hF hb hN
  have hBs := hB.size
  replace hB := hB.trans (hb.mono hB.size)
  dsimp only [ext, Option.getD] at hF
  repeat with_reducible first | refine wp_seq ?_ | refine nThen ?_ | refine nBlk ?_ | refine wp_skip ?_ | refine wp_block ?_ | refine wp_exit ?_ | refine xThen ?_ | refine xHere ?_ | refine xFar (by decide) ?_ | refine wp_ret ?_ | refine rThen ?_ | refine rBlk ?_
  refine ret1 hF rfl rfl fun z hz => ?_
  exact ⟨z, rfl, hz, hB⟩
set_option maxRecDepth 100000 in
theorem tzero_ty (seed : Nat) (L : List Cl) : Fn1 Try.prog 34 (Ty.tab 87 seed L) (Ty.ex (.bool (goodN (L.length : Int) && allZ L))) := by
  refine ⟨fun args w => by kernel_rfl, fun w v ⟨s, hv, hs⟩ => ?_⟩
  subst hv
  have hG := tgood_ty seed L
  by_cases hg : goodN (L.length : Int) = true
  · obtain ⟨N, hN, _, hN2⟩ := goodN_rng hg
    have hC := contCl_ty L (by omega)
    rw [hg] at hG ⊢
    refine enter_ty 11 [Ty.ex (.agg #[.int .u64 (seed : Int), s])] Try.func34 rfl (by kernel_rfl) ⟨rfl, trivial⟩ fun a hF => ?_
    have hB := Below.refl w.heap.size w
    repeat with_reducible first | refine wp_seq ?_ | refine nThen ?_ | refine nBlk ?_ | refine wp_skip ?_ | refine wp_block ?_ | refine wp_exit ?_ | refine xThen ?_ | refine xHere ?_ | refine xFar (by decide) ?_ | refine wp_ret ?_ | refine rThen ?_ | refine rBlk ?_
    refine' reg_all hF ?_ mixed (by kernel_rfl) ?_
    rotate_left
    · repeat (first
          | exact Line.nil
          | (refine' Line.cons rfl (.no rfl rfl rfl rfl rfl rfl) ?_; rotate_left)
          | ((first | refine' Line.cons rfl (.run rfl rfl ?_) ?_ | refine' Line.cons rfl (.yes rfl rfl rfl rfl ?_) ?_)
             any_goals (first | exact cMove rfl rfl | exact cAssign rfl rfl | exact cNot rfl rfl | exact cBoxTab rfl rfl | exact cPickT rfl rfl rfl | exact cPickF rfl rfl rfl | exact cLss rfl rfl rfl | exact cLeq rfl rfl rfl | exact cGtr rfl rfl rfl | exact cGeq rfl rfl rfl | exact cEql rfl rfl rfl | exact cNeq rfl rfl rfl | exact cExtract rfl rfl rfl)
             rotate_left))
    intro a w1 hF hb hN
    have hBs := hB.size
    replace hB := hB.trans (hb.mono hB.size)
    dsimp only [ext, Option.getD] at hF
    repeat with_reducible first | refine wp_seq ?_ | refine nThen ?_ | refine nBlk ?_ | refine wp_skip ?_ | refine wp_block ?_ | refine wp_exit ?_ | refine xThen ?_ | refine xHere ?_ | refine xFar (by decide) ?_ | refine wp_ret ?_ | refine rThen ?_ | refine rBlk ?_
    have hs1 := (Ty.cls 87 L).below hs hB
    have ht1 : (Ty.tab 87 seed L).p w1 (.agg #[.int .u64 (seed : Int), s]) := ⟨s, rfl, hs1⟩
    refine' reg_all hF ?_ mixed (by kernel_rfl) ?_
    rotate_left
    · repeat (first
          | exact Line.nil
          | (refine' Line.cons rfl (.no rfl rfl rfl rfl rfl rfl) ?_; rotate_left)
          | ((first | refine' Line.cons rfl (.run rfl rfl ?_) ?_ | refine' Line.cons rfl (.yes rfl rfl rfl rfl ?_) ?_)
             any_goals (first | exact cMove rfl rfl | exact cAssign rfl rfl | exact cNot rfl rfl | exact cLoadT46 rfl (.t rfl) | exact cCallH1 rfl (.l rfl ht1) hG | exact cFldL46 rfl (.t rfl) | exact cRowOf46 rfl (.t rfl) | exact cCallH2 rfl (.l rfl hs1) (.t rfl) hC | exact cPickT rfl rfl rfl | exact cPickF rfl rfl rfl | exact cLss rfl rfl rfl | exact cLeq rfl rfl rfl | exact cGtr rfl rfl rfl | exact cGeq rfl rfl rfl | exact cEql rfl rfl rfl | exact cNeq rfl rfl rfl | exact cExtract rfl rfl rfl)
             rotate_left))
    intro a w2 hF hb hN
    have hBs := hB.size
    replace hB := hB.trans (hb.mono hB.size)
    dsimp only [ext, Option.getD] at hF
    repeat with_reducible first | refine wp_seq ?_ | refine nThen ?_ | refine nBlk ?_ | refine wp_skip ?_ | refine wp_block ?_ | refine wp_exit ?_ | refine xThen ?_ | refine xHere ?_ | refine xFar (by decide) ?_ | refine wp_ret ?_ | refine rThen ?_ | refine rBlk ?_
    refine ret1 hF rfl rfl fun z hz => ?_
    refine ⟨z, rfl, ?_, hB⟩
    rw [Bool.true_and, show allZ L = !!allZ L by simp]
    exact hz
  · have hg : goodN (L.length : Int) = false := by simpa using hg
    rw [hg] at hG ⊢
    refine enter_ty 11 [Ty.ex (.agg #[.int .u64 (seed : Int), s])] Try.func34 rfl (by kernel_rfl) ⟨rfl, trivial⟩ fun a hF => ?_
    have hB := Below.refl w.heap.size w
    repeat with_reducible first | refine wp_seq ?_ | refine nThen ?_ | refine nBlk ?_ | refine wp_skip ?_ | refine wp_block ?_ | refine wp_exit ?_ | refine xThen ?_ | refine xHere ?_ | refine xFar (by decide) ?_ | refine wp_ret ?_ | refine rThen ?_ | refine rBlk ?_
    refine' reg_all hF ?_ mixed (by kernel_rfl) ?_
    rotate_left
    · repeat (first
          | exact Line.nil
          | (refine' Line.cons rfl (.no rfl rfl rfl rfl rfl rfl) ?_; rotate_left)
          | ((first | refine' Line.cons rfl (.run rfl rfl ?_) ?_ | refine' Line.cons rfl (.yes rfl rfl rfl rfl ?_) ?_)
             any_goals (first | exact cMove rfl rfl | exact cAssign rfl rfl | exact cNot rfl rfl | exact cBoxTab rfl rfl | exact cPickT rfl rfl rfl | exact cPickF rfl rfl rfl | exact cLss rfl rfl rfl | exact cLeq rfl rfl rfl | exact cGtr rfl rfl rfl | exact cGeq rfl rfl rfl | exact cEql rfl rfl rfl | exact cNeq rfl rfl rfl | exact cExtract rfl rfl rfl)
             rotate_left))
    intro a w1 hF hb hN
    have hBs := hB.size
    replace hB := hB.trans (hb.mono hB.size)
    dsimp only [ext, Option.getD] at hF
    repeat with_reducible first | refine wp_seq ?_ | refine nThen ?_ | refine nBlk ?_ | refine wp_skip ?_ | refine wp_block ?_ | refine wp_exit ?_ | refine xThen ?_ | refine xHere ?_ | refine xFar (by decide) ?_ | refine wp_ret ?_ | refine rThen ?_ | refine rBlk ?_
    have hs1 := (Ty.cls 87 L).below hs hB
    have ht1 : (Ty.tab 87 seed L).p w1 (.agg #[.int .u64 (seed : Int), s]) := ⟨s, rfl, hs1⟩
    refine' reg_all hF ?_ mixed (by kernel_rfl) ?_
    rotate_left
    · repeat (first
          | exact Line.nil
          | (refine' Line.cons rfl (.no rfl rfl rfl rfl rfl rfl) ?_; rotate_left)
          | ((first | refine' Line.cons rfl (.run rfl rfl ?_) ?_ | refine' Line.cons rfl (.yes rfl rfl rfl rfl ?_) ?_)
             any_goals (first | exact cMove rfl rfl | exact cAssign rfl rfl | exact cNot rfl rfl | exact cLoadT46 rfl (.t rfl) | exact cCallH1 rfl (.l rfl ht1) hG | exact cPickT rfl rfl rfl | exact cPickF rfl rfl rfl | exact cLss rfl rfl rfl | exact cLeq rfl rfl rfl | exact cGtr rfl rfl rfl | exact cGeq rfl rfl rfl | exact cEql rfl rfl rfl | exact cNeq rfl rfl rfl | exact cExtract rfl rfl rfl)
             rotate_left))
    intro a w2 hF hb hN
    have hBs := hB.size
    replace hB := hB.trans (hb.mono hB.size)
    dsimp only [ext, Option.getD] at hF
    repeat with_reducible first | refine wp_seq ?_ | refine nThen ?_ | refine nBlk ?_ | refine wp_skip ?_ | refine wp_block ?_ | refine wp_exit ?_ | refine xThen ?_ | refine xHere ?_ | refine xFar (by decide) ?_ | refine wp_ret ?_ | refine rThen ?_ | refine rBlk ?_
    refine ret1 hF rfl rfl fun z hz => ?_
    exact ⟨z, rfl, hz, hB⟩
end Go.Proofs.Ytmlbkcpmgcjblaa

/- The library's contracts, laid at this translation. -/
namespace Go.Proofs.Ytmlbkcpmgcjblaa
open Go.RowKit Go.Shelf

def laysSortS_ren : Go.Shelf.Ren := ⟨fun | 6 => 65 | 15 => 102 | 14 => 101 | 28 => 130 | 29 => 131 | 20 => 122 | 21 => 123 | 22 => 124 | 23 => 125 | 24 => 126 | 25 => 127 | 26 => 128 | 27 => 129 | 46 => 137 | 47 => 138 | 48 => 139 | 49 => 140 | 50 => 141 | 57 => 142 | n => n, fun | 22 => 24 | 24 => 34 | 25 => 91 | 3 => 3 | 39 => 112 | 0 => 0 | 53 => 115 | 55 => 38 | 4 => 4 | 46 => 159 | 45 => 158 | 50 => 135 | 5 => 5 | 9 => 9 | 66 => 168 | 70 => 172 | 76 => 174 | 77 => 175 | n => n, fun | n => n⟩
theorem laysSortS : Go.Proofs.SlLaysF0.n6 Try.prog laysSortS_ren := {
  mixed := by kernel_rfl
  f6 := ⟨Try.f65.name, by decide, Try.func65.trans (congrArg some (by kernel_rfl))⟩
  f14 := ⟨Try.f101.name, by decide, Try.func101.trans (congrArg some (by kernel_rfl))⟩
  f15 := Try.func102.trans (congrArg some (by kernel_rfl))
  f20 := ⟨Try.f122.name, by decide, Try.func122.trans (congrArg some (by kernel_rfl))⟩
  f21 := ⟨Try.f123.name, by decide, Try.func123.trans (congrArg some (by kernel_rfl))⟩
  f22 := ⟨Try.f124.name, by decide, Try.func124.trans (congrArg some (by kernel_rfl))⟩
  f23 := ⟨Try.f125.name, by decide, Try.func125.trans (congrArg some (by kernel_rfl))⟩
  f24 := ⟨Try.f126.name, by decide, Try.func126.trans (congrArg some (by kernel_rfl))⟩
  f25 := ⟨Try.f127.name, by decide, Try.func127.trans (congrArg some (by kernel_rfl))⟩
  f26 := ⟨Try.f128.name, by decide, Try.func128.trans (congrArg some (by kernel_rfl))⟩
  f27 := ⟨Try.f129.name, by decide, Try.func129.trans (congrArg some (by kernel_rfl))⟩
  f28 := Try.func130.trans (congrArg some (by kernel_rfl))
  f29 := Try.func131.trans (congrArg some (by kernel_rfl))
  f46 := ⟨Try.f137.name, by decide, Try.func137.trans (congrArg some (by kernel_rfl))⟩
  f47 := Try.func138.trans (congrArg some (by kernel_rfl))
  f48 := Try.func139.trans (congrArg some (by kernel_rfl))
  f49 := ⟨Try.f140.name, by decide, Try.func140.trans (congrArg some (by kernel_rfl))⟩
  f50 := ⟨Try.f141.name, by decide, Try.func141.trans (congrArg some (by kernel_rfl))⟩
  f57 := ⟨Try.f142.name, by decide, Try.func142.trans (congrArg some (by kernel_rfl))⟩
  t0 := Try.underlying0
  a0 := Try.isAgg0
  z0 := Try.sizeOf0
  v0 := Try.zeroValue0
  t3 := Try.underlying3
  a3 := Try.isAgg3
  z3 := Try.sizeOf3
  v3 := Try.zeroValue3
  t4 := Try.underlying4
  a4 := Try.isAgg4
  z4 := Try.sizeOf4
  v4 := Try.zeroValue4
  t5 := Try.underlying5
  a5 := Try.isAgg5
  z5 := Try.sizeOf5
  v5 := Try.zeroValue5
  t9 := Try.underlying9
  a9 := Try.isAgg9
  z9 := Try.sizeOf9
  v9 := Try.zeroValue9
  t22 := Try.underlying24
  a22 := Try.isAgg24
  z22 := Try.sizeOf24
  v22 := Try.zeroValue24
  t25 := Try.underlying91
  a25 := Try.isAgg91
  z25 := Try.sizeOf91
  v25 := Try.zeroValue91
  t39 := Try.underlying112
  a39 := Try.isAgg112
  z39 := Try.sizeOf112
  v39 := Try.zeroValue112
  t45 := Try.underlying158
  a45 := Try.isAgg158
  z45 := Try.sizeOf158
  v45 := Try.zeroValue158
  t46 := Try.underlying159
  a46 := Try.isAgg159
  z46 := Try.sizeOf159
  v46 := Try.zeroValue159
  t50 := Try.underlying135
  a50 := Try.isAgg135
  z50 := Try.sizeOf135
  v50 := Try.zeroValue135
  t53 := Try.underlying115
  a53 := Try.isAgg115
  z53 := Try.sizeOf115
  v53 := Try.zeroValue115
  t55 := Try.underlying38
  a55 := Try.isAgg38
  z55 := Try.sizeOf38
  v55 := Try.zeroValue38
  t66 := Try.underlying168
  a66 := Try.isAgg168
  z66 := Try.sizeOf168
  v66 := Try.zeroValue168
  t70 := Try.underlying172
  a70 := Try.isAgg172
  z70 := Try.sizeOf172
  v70 := Try.zeroValue172
  t76 := Try.underlying174
  a76 := Try.isAgg174
  z76 := Try.sizeOf174
  v76 := Try.zeroValue174
  t77 := Try.underlying175
  a77 := Try.isAgg175
  z77 := Try.sizeOf175
  v77 := Try.zeroValue175 }
end Go.Proofs.Ytmlbkcpmgcjblaa

/- Layer 10: SortFunc by the library's contract; Compact; Of. -/
namespace Go.Proofs.Ytmlbkcpmgcjblaa
open Go.RowKit

theorem rd_box {w : World} {g : Nat} {t : TypeId} {l : List Nat} (h : Blk w g t (u8s l)) : Rd w (some ⟨g, 0, none⟩) (l.map bv) := by
  have := Rd.of_blk0 h
  simpa [u8s] using this
set_option maxRecDepth 100000 in
/-- Sum.Cmp, its world to the letter. -/
theorem cmpW (x y : Sm) (w : World) : Calls Try.prog 66 #[.agg (u8s x.l), .agg (u8s y.l)] w fun e w' => e = .returned (.int .i64 (cmpL x.l y.l)) ∧ ∃ q os, w' = Sort.grow (w.drewN q) os := by
  have h0 : Blk ((w.alloc (.cells (u8s x.l) 34)).alloc (.cells (u8s y.l) 34)) w.heap.size 34 (u8s x.l) := (Blk.new w _ _).alloc _
  have h1 : Blk ((w.alloc (.cells (u8s x.l) 34)).alloc (.cells (u8s y.l) 34)) (w.heap.size + 1) 34 (u8s y.l) := Blk.newAt (w.alloc _) _ _ _ (by simp)
  have hc : ∀ n, Calls Try.prog 103 #[.slice (some ⟨w.heap.size, 0, none⟩) 32 32, .slice (some ⟨w.heap.size + 1, 0, none⟩) 32 32] (((w.alloc (.cells (u8s x.l) 34)).alloc (.cells (u8s y.l) 34)).drewN n)
      fun e w' => e = .returned (.int .i64 (cmpL x.l y.l)) ∧ w' = (((w.alloc (.cells (u8s x.l) 34)).alloc (.cells (u8s y.l) 34)).drewN n) := fun n =>
    Compare_any _ _ 32 32 32 32 x.l y.l _ x.len y.len (rd_box (h0.drewN n)) (rd_box (h1.drewN n)) (by simp) (by simp) x.lt y.lt
  have HC := Lib.hid hc
  clear hc h0 h1
  generalize cmpL x.l y.l = r at *
  go_enter Try.func66, Try.ntmps66
  go_wp2_with fail
  go_quiet ((go_at_call 103; exact Calls.quiet_of_same (HC.out _)))
  go_wp2_with fail
  go_ret
  exact ⟨rfl, _, _, by rw [Sort.alloc_eq_grow, Sort.alloc_eq_grow, Sort.grow_grow]; rfl⟩

/-! ### Sorted -/
def ltS (x y : Sm) : Bool := decide (cmpL x.l y.l < 0)
def sortL (D : List Sm) : List Sm := D.mergeSort fun x y => !ltS y x
theorem sortL_len (D : List Sm) : (sortL D).length = D.length := by simp [sortL]
theorem ltS_swo : Sort.SWO (ltOf fun x y : Sm => cmpL x.l y.l) where
  irrefl x := by
    show decide (cmpL x.l x.l < 0) = false
    rw [(cmpL_eq x.l x.l).2 rfl]
    rfl
  trans x y z h1 h2 := by
    unfold ltOf at *
    simp only [decide_eq_true_eq] at *
    exact (cmpL_trans x.l y.l z.l (by omega) (by omega)).2 (.inl h1)
  ntrans x y z h1 h2 := by
    unfold ltOf at *
    simp only [decide_eq_false_iff_not] at *
    have s1 := cmpL_swap x.l y.l
    have s2 := cmpL_swap y.l z.l
    have s3 := cmpL_swap x.l z.l
    have := (cmpL_trans z.l y.l x.l (by omega) (by omega)).1
    omega
theorem flatK_flat (D : List Sm) : Sort.flatK Sm.enc 32 D.toArray = (flat D).toArray := by
  refine Sort.ext_get! (by simp [flat_len]) fun t ht => ?_
  have ht' : t < D.length * 32 := by simpa using ht
  have hq : t / 32 < D.length := by omega
  rw [Sort.get_flatK _ _ _ _ (by simpa using ht')]
  have e1 : D.toArray[t / 32]! = D.getD (t / 32) default := by simp [List.getD, hq]
  have hfl := flat_at D hq
  have hg : (flat D)[t]? = (D.getD (t / 32) default).enc[t % 32]? := by
    have h1 : ((flat D).drop (t / 32 * 32))[t % 32]? = (flat D)[t]? := by rw [List.getElem?_drop]; congr 1; omega
    rw [← h1, hfl, List.getElem?_append_left (by rw [enc_len]; omega)]
  rw [e1]
  have h2 : t % 32 < (D.getD (t / 32) default).enc.length := by rw [enc_len]; omega
  have h3 : t < (flat D).length := by rw [flat_len]; exact ht'
  rw [getElem!_pos (D.getD (t / 32) default).enc (t % 32) h2]
  rw [getElem!_pos (flat D).toArray t (by simpa using h3)]
  rw [List.getElem?_eq_getElem h3, List.getElem?_eq_getElem h2] at hg
  injection hg with hg
  simpa using hg.symm
theorem holds_seg {w : World} {e : TypeId} {g off cap : Nat} {D : List Sm} (h : SegL w e 32 g off D.length cap (flat D)) : Sort.HoldsK Sm.enc 32 w g off D.toArray := by
  obtain ⟨hl, hn, hm, cs, hb, hs, hx⟩ := h
  unfold Sort.HoldsK
  rw [flatK_flat]
  intro j hj
  have hj' : j < (flat D).length := by simpa using hj
  have hj2 : j < D.length * 32 := by rw [← flat_len]; exact hj'
  refine ⟨?_, hb.frozen _⟩
  rw [hb.cell, hx j hj2, List.getElem?_eq_getElem hj', getElem!_pos (flat D).toArray j hj]
  simp
theorem seg_sorted {w : World} {e : TypeId} {g off cap n : Nat} {D : List Sm} (D' : List Sm) (os : Array Obj) (h : SegL w e 32 g off D.length cap (flat D)) (hl' : D'.length = D.length) :
    SegL (sortWorldK Sm.enc 32 w g off n D'.toArray os) e 32 g off D.length cap (flat D') ∧ Keeps [g] w (sortWorldK Sm.enc 32 w g off n D'.toArray os) := by
  obtain ⟨hl, hn, hm, cs, hb, hs, hx⟩ := h
  have hle : D.length * 32 ≤ cap * 32 := Nat.mul_le_mul_right _ hn
  unfold sortWorldK Sort.putRowK
  rw [flatK_flat]
  have hfl : (flat D').length = D.length * 32 := by rw [flat_len, hl']
  have hsz : ∀ W : World, (Sort.putRow id W g off (flat D').toArray).heap.size = W.heap.size := fun W => Sort.size_putRow id W g off _
  have hblk : (Sort.grow (Sort.putRow id (Sort.ahead w n) g off (flat D').toArray) os).heap[g]? = some (.cells (Sort.putCells id off (flat D').toArray cs) e (0, 0)) := by
    have hgl : g < (Sort.putRow id (Sort.ahead w n) g off (flat D').toArray).heap.size := by rw [hsz]; exact hb.lt
    unfold Sort.grow
    simp only []
    rw [Array.getElem?_append_left hgl]
    unfold Sort.putRow Sort.mapBlock
    simp only [Array.getElem?_modify, if_true]
    have : (Sort.ahead w n).heap[g]? = w.heap[g]? := rfl
    rw [this]
    unfold Blk at hb
    rw [hb]
    rfl
  refine ⟨⟨hfl, hn, hm, _, hblk, by simpa [Sort.putCells] using hs, fun j hj => ?_⟩, ⟨rfl, rfl, rfl, ?_, fun k hk hne => ?_⟩⟩
  · unfold Sort.putCells
    have hoj : off + j < cs.size := by omega
    rw [Array.getElem?_mapIdx, Array.getElem?_eq_getElem hoj]
    simp only [Option.map_some]
    have hjf : j < (flat D').length := by omega
    rw [if_pos (by simp; omega), show off + j - off = j by omega, getElem!_pos (flat D').toArray j (by simpa using hjf), List.getElem?_eq_getElem hjf]
    simp
  · show w.heap.size ≤ ((Sort.putRow id (Sort.ahead w n) g off (flat D').toArray).heap ++ os).size
    rw [Array.size_append, hsz]
    exact Nat.le_add_right _ _
  · show ((Sort.putRow id (Sort.ahead w n) g off (flat D').toArray).heap ++ os)[k]? = w.heap[k]?
    rw [Array.getElem?_append_left (by rw [hsz]; exact hk)]
    unfold Sort.putRow Sort.mapBlock
    simp only [Array.getElem?_modify]
    rw [if_neg (fun h => hne (by simp [h]))]
    rfl
theorem sort_any (D : List Sm) (w : World) (g off cap : Nat) (hs : SegL w 34 32 g off D.length cap (flat D)) (hD : D.length ≤ 1000000) :
    Calls Try.prog 65 #[.slice (some ⟨g, off, none⟩) D.length cap, .func (.func 66) #[] #[]] w fun e w' => ∃ u, e = .returned u ∧ SegL w' 34 32 g off D.length cap (flat (sortL D)) ∧ Keeps [g] w w' := by
  have h := AnyQ.slices_SortFunc_total laysSortS 32 Try.isAgg34 Try.sizeOf34 Sm.enc enc_len (fun x v hv => enc_one x v hv) (fun x y : Sm => cmpL x.l y.l) ltS_swo 66 #[] g off cap D.toArray w (fun args w => by kernel_rfl)
    (fun _ _ _ _ x y => cmpW x y _) (holds_seg hs) hs.lt (by simp; omega) (fun x y h1 h2 => by
      unfold ltOf at h1 h2
      simp only [decide_eq_false_iff_not] at h1 h2
      have h3 := cmpL_swap x.l y.l
      exact Sm.ext_l ((cmpL_eq x.l y.l).1 (by omega)))
  refine Calls.mono h fun e w' ⟨he, n, os, hw⟩ => ⟨_, he, ?_⟩
  subst hw
  exact seg_sorted (sortL D) os hs (sortL_len D)
theorem sort_none (w : World) : Calls Try.prog 65 #[.slice none 0 0, .func (.func 66) #[] #[]] w fun e w' => ∃ u, e = .returned u ∧ w' = w :=
  Calls.mono (AnyF.slices_SortFunc_none laysSortS none 0 (.func (.func 66) #[] #[]) w) fun _ _ ⟨h1, h2⟩ => ⟨_, h1, h2⟩
end Go.Proofs.Ytmlbkcpmgcjblaa

/- Layer 10: the walks of Compact, Of. -/
namespace Go.Proofs.Ytmlbkcpmgcjblaa
open Go.RowKit

/-- The first m, of alike neighbours only the first. -/
def ddL (D : List Sm) : Nat → List Sm
  | 0 => []
  | m + 1 => if m = 0 ∨ ¬ D.getD m default = D.getD (m - 1) default then ddL D m ++ [D.getD m default] else ddL D m
theorem ddL_le (D : List Sm) : ∀ m, (ddL D m).length ≤ m
  | 0 => Nat.le_refl _
  | m + 1 => by
    have := ddL_le D m
    unfold ddL
    split
    · simp; omega
    · omega
theorem ddL_new {D : List Sm} {m : Nat} (h : m = 0 ∨ ¬ D.getD m default = D.getD (m - 1) default) : ddL D (m + 1) = ddL D m ++ [D.getD m default] := by
  rw [ddL, if_pos h]
theorem ddL_old {D : List Sm} {m : Nat} (h0 : m ≠ 0) (h : D.getD m default = D.getD (m - 1) default) : ddL D (m + 1) = ddL D m := by
  rw [ddL, if_neg (by rintro (h1 | h1); exact h0 h1; exact h1 h)]
theorem take_snoc' (D : List Sm) {m : Nat} (h : m < D.length) : D.take (m + 1) = D.take m ++ [D.getD m default] := by
  rw [List.take_succ_eq_append_getElem h]
  simp [List.getD, List.getElem?_eq_getElem h]
theorem getD_set (D : List Sm) {i j : Nat} (x : Sm) (hi : i < D.length) : (D.set i x).getD j default = if i = j then x else D.getD j default := by
  simp only [List.getD, List.getElem?_set]
  by_cases h : i = j
  · subst h; simp [hi]
  · simp [h]
theorem getD_drop (D : List Sm) (k j : Nat) : (D.drop k).getD j default = D.getD (k + j) default := by
  simp [List.getD, List.getElem?_drop]

set_option maxRecDepth 100000 in
set_option maxHeartbeats 2000000 in
theorem compact_any (D : List Sm) (w : World) (g off cap : Nat) (hs0 : SegL w 34 32 g off D.length cap (flat D)) (hD : D.length ≤ 1000000) :
    Calls Try.prog 67 #[.slice (some ⟨g, off, none⟩) D.length cap] w fun e w' => ∃ k, e = .returned (.slice (some ⟨g, off, none⟩) k cap) ∧ k = (ddL D D.length).length ∧ SegL w' 34 32 g off k cap (flat (ddL D D.length)) ∧ Keeps [g] w w' := by
  have hcap : D.length ≤ cap := hs0.2.1
  refine enter_ty 61 [Ty.ex (.slice (some ⟨g, off, none⟩) D.length cap)] Try.func67 rfl (by kernel_rfl) ⟨rfl, trivial⟩ fun a hF => ?_
  have hB := Below.refl w.heap.size w
  repeat with_reducible first | refine wp_seq ?_ | refine nThen ?_ | refine nBlk ?_ | refine wp_skip ?_ | refine wp_block ?_ | refine wp_exit ?_ | refine xThen ?_ | refine xHere ?_ | refine xFar (by decide) ?_ | refine wp_ret ?_ | refine rThen ?_ | refine rBlk ?_
  refine' reg_all hF ?_ mixed (by kernel_rfl) ?_
  rotate_left
  · repeat (first
        | exact Line.nil
        | (refine' Line.cons rfl (.no rfl rfl rfl rfl rfl rfl) ?_; rotate_left)
        | ((first | refine' Line.cons rfl (.run rfl rfl ?_) ?_ | refine' Line.cons rfl (.yes rfl rfl rfl rfl ?_) ?_)
           any_goals (first | exact cMove rfl rfl | exact cAssign rfl rfl | exact cPickT rfl rfl rfl | exact cPickF rfl rfl rfl | exact cNot rfl rfl | exact cLss rfl rfl rfl | exact cLeq rfl rfl rfl | exact cGtr rfl rfl rfl | exact cGeq rfl rfl rfl | exact cEql rfl rfl rfl | exact cNeq rfl rfl rfl | exact cExtract rfl rfl rfl)
           rotate_left))
  intro a w1 hF hb hN
  have hBs := hB.size
  replace hB := hB.trans (hb.mono hB.size)
  dsimp only [ext, Option.getD] at hF
  repeat with_reducible first | refine wp_seq ?_ | refine nThen ?_ | refine nBlk ?_ | refine wp_skip ?_ | refine wp_block ?_ | refine wp_exit ?_ | refine xThen ?_ | refine xHere ?_ | refine xFar (by decide) ?_ | refine wp_ret ?_ | refine rThen ?_ | refine rBlk ?_
  refine' reg_all hF ?_ mixed (by kernel_rfl) ?_
  rotate_left
  · repeat (first
        | exact Line.nil
        | (refine' Line.cons rfl (.no rfl rfl rfl rfl rfl rfl) ?_; rotate_left)
        | ((first | refine' Line.cons rfl (.run rfl rfl ?_) ?_ | refine' Line.cons rfl (.yes rfl rfl rfl rfl ?_) ?_)
           any_goals (first | exact cLenEx rfl rfl Try.underlying24 | exact cMove rfl rfl | exact cAssign rfl rfl | exact cPickT rfl rfl rfl | exact cPickF rfl rfl rfl | exact cNot rfl rfl | exact cLss rfl rfl rfl | exact cLeq rfl rfl rfl | exact cGtr rfl rfl rfl | exact cGeq rfl rfl rfl | exact cEql rfl rfl rfl | exact cNeq rfl rfl rfl | exact cExtract rfl rfl rfl)
           rotate_left))
  intro a w2 hF hb hN
  have hBs := hB.size
  replace hB := hB.trans (hb.mono hB.size)
  dsimp only [ext, Option.getD] at hF
  repeat with_reducible first | refine wp_seq ?_ | refine nThen ?_ | refine nBlk ?_ | refine wp_skip ?_ | refine wp_block ?_ | refine wp_exit ?_ | refine xThen ?_ | refine xHere ?_ | refine xFar (by decide) ?_ | refine wp_ret ?_ | refine rThen ?_ | refine rBlk ?_
  refine cond_ty hF rfl (fun h0 => ?_) (fun h1 => ?_)
  · have h0 := of_decide_eq_true h0
    have hdd : ddL D D.length = D := by
      match D, h0 with
      | [], _ => rfl
      | [x], _ => simp [ddL]
      | x :: y :: r, h => simp at h; omega
    repeat with_reducible first | refine wp_seq ?_ | refine nThen ?_ | refine nBlk ?_ | refine wp_skip ?_ | refine wp_block ?_ | refine wp_exit ?_ | refine xThen ?_ | refine xHere ?_ | refine xFar (by decide) ?_ | refine wp_ret ?_ | refine rThen ?_ | refine rBlk ?_
    refine' reg_all hF ?_ mixed (by kernel_rfl) ?_
    rotate_left
    · repeat (first
          | exact Line.nil
          | (refine' Line.cons rfl (.no rfl rfl rfl rfl rfl rfl) ?_; rotate_left)
          | ((first | refine' Line.cons rfl (.run rfl rfl ?_) ?_ | refine' Line.cons rfl (.yes rfl rfl rfl rfl ?_) ?_)
             any_goals (first | exact cMove rfl rfl | exact cAssign rfl rfl | exact cPickT rfl rfl rfl | exact cPickF rfl rfl rfl | exact cNot rfl rfl | exact cLss rfl rfl rfl | exact cLeq rfl rfl rfl | exact cGtr rfl rfl rfl | exact cGeq rfl rfl rfl | exact cEql rfl rfl rfl | exact cNeq rfl rfl rfl | exact cExtract rfl rfl rfl)
             rotate_left))
    intro a w3 hF hb hN
    have hBs := hB.size
    replace hB := hB.trans (hb.mono hB.size)
    dsimp only [ext, Option.getD] at hF
    repeat with_reducible first | refine wp_seq ?_ | refine nThen ?_ | refine nBlk ?_ | refine wp_skip ?_ | refine wp_block ?_ | refine wp_exit ?_ | refine xThen ?_ | refine xHere ?_ | refine xFar (by decide) ?_ | refine wp_ret ?_ | refine rThen ?_ | refine rBlk ?_
    refine ret1 hF rfl rfl fun z hz => ?_
    have hz : z = .slice (some ⟨g, off, none⟩) D.length cap := hz
    subst hz
    rw [hdd]
    exact ⟨D.length, rfl, rfl, hs0.below hB, Keeps.of_below hB⟩
  have h1 := of_decide_eq_false h1
  repeat with_reducible first | refine wp_seq ?_ | refine nThen ?_ | refine nBlk ?_ | refine wp_skip ?_ | refine wp_block ?_ | refine wp_exit ?_ | refine xThen ?_ | refine xHere ?_ | refine xFar (by decide) ?_ | refine wp_ret ?_ | refine rThen ?_ | refine rBlk ?_
  refine' reg_all hF ?_ mixed (by kernel_rfl) ?_
  rotate_left
  · repeat (first
        | exact Line.nil
        | (refine' Line.cons rfl (.no rfl rfl rfl rfl rfl rfl) ?_; rotate_left)
        | ((first | refine' Line.cons rfl (.run rfl rfl ?_) ?_ | refine' Line.cons rfl (.yes rfl rfl rfl rfl ?_) ?_)
           any_goals (first | exact cMove rfl rfl | exact cAssign rfl rfl | exact cPickT rfl rfl rfl | exact cPickF rfl rfl rfl | exact cNot rfl rfl | exact cLss rfl rfl rfl | exact cLeq rfl rfl rfl | exact cGtr rfl rfl rfl | exact cGeq rfl rfl rfl | exact cEql rfl rfl rfl | exact cNeq rfl rfl rfl | exact cExtract rfl rfl rfl)
           rotate_left))
  intro a w3 hF hb hN
  have hBs := hB.size
  replace hB := hB.trans (hb.mono hB.size)
  dsimp only [ext, Option.getD] at hF
  repeat with_reducible first | refine wp_seq ?_ | refine nThen ?_ | refine nBlk ?_ | refine wp_skip ?_ | refine wp_block ?_ | refine wp_exit ?_ | refine xThen ?_ | refine xHere ?_ | refine xFar (by decide) ?_ | refine wp_ret ?_ | refine rThen ?_ | refine rBlk ?_
  refine loop_ty (fun m a wr => ∃ k : Nat, k + m = D.length ∧ 1 ≤ k ∧ Fr 61 [(0, Ty.ex (.slice (some ⟨g, off, none⟩) D.length cap)), (3, Ty.ex (.int .i64 (k : Int)))] a wr ∧ Below w.heap.size w wr ∧ ddL D k = D.take k) (D.length - 1) ?_ ?_
  · refine ⟨1, by omega, Nat.le_refl _, hF.keep [0, 3], hB, ?_⟩
    rw [ddL_new (.inl rfl), take_snoc' D (by omega)]
    rfl
  clear hF hB
  rintro m a wr ⟨k, hk, hk1, hF, hB, hdd⟩
  repeat with_reducible first | refine wp_seq ?_ | refine nThen ?_ | refine nBlk ?_ | refine wp_skip ?_ | refine wp_block ?_ | refine wp_exit ?_ | refine xThen ?_ | refine xHere ?_ | refine xFar (by decide) ?_ | refine wp_ret ?_ | refine rThen ?_ | refine rBlk ?_
  refine' reg_all hF ?_ mixed (by kernel_rfl) ?_
  rotate_left
  · repeat (first
        | exact Line.nil
        | (refine' Line.cons rfl (.no rfl rfl rfl rfl rfl rfl) ?_; rotate_left)
        | ((first | refine' Line.cons rfl (.run rfl rfl ?_) ?_ | refine' Line.cons rfl (.yes rfl rfl rfl rfl ?_) ?_)
           any_goals (first | exact cLenEx rfl rfl Try.underlying24 | exact cMove rfl rfl | exact cAssign rfl rfl | exact cPickT rfl rfl rfl | exact cPickF rfl rfl rfl | exact cNot rfl rfl | exact cLss rfl rfl rfl | exact cLeq rfl rfl rfl | exact cGtr rfl rfl rfl | exact cGeq rfl rfl rfl | exact cEql rfl rfl rfl | exact cNeq rfl rfl rfl | exact cExtract rfl rfl rfl)
           rotate_left))
  intro a w4 hF hb hN
  have hBs := hB.size
  replace hB := hB.trans (hb.mono hB.size)
  dsimp only [ext, Option.getD] at hF
  repeat with_reducible first | refine wp_seq ?_ | refine nThen ?_ | refine nBlk ?_ | refine wp_skip ?_ | refine wp_block ?_ | refine wp_exit ?_ | refine xThen ?_ | refine xHere ?_ | refine xFar (by decide) ?_ | refine wp_ret ?_ | refine rThen ?_ | refine rBlk ?_
  refine cond_ty hF rfl (fun hlt => ?_) (fun hge => ?_)
  rotate_left
  · have hge : ¬ k < D.length := by simpa using hge
    obtain rfl : k = D.length := by omega
    rw [List.take_length] at hdd
    repeat with_reducible first | refine wp_seq ?_ | refine nThen ?_ | refine nBlk ?_ | refine wp_skip ?_ | refine wp_block ?_ | refine wp_exit ?_ | refine xThen ?_ | refine xHere ?_ | refine xFar (by decide) ?_ | refine wp_ret ?_ | refine rThen ?_ | refine rBlk ?_
    refine' reg_all hF ?_ mixed (by kernel_rfl) ?_
    rotate_left
    · repeat (first
          | exact Line.nil
          | (refine' Line.cons rfl (.no rfl rfl rfl rfl rfl rfl) ?_; rotate_left)
          | ((first | refine' Line.cons rfl (.run rfl rfl ?_) ?_ | refine' Line.cons rfl (.yes rfl rfl rfl rfl ?_) ?_)
             any_goals (first | exact cMove rfl rfl | exact cAssign rfl rfl | exact cPickT rfl rfl rfl | exact cPickF rfl rfl rfl | exact cNot rfl rfl | exact cLss rfl rfl rfl | exact cLeq rfl rfl rfl | exact cGtr rfl rfl rfl | exact cGeq rfl rfl rfl | exact cEql rfl rfl rfl | exact cNeq rfl rfl rfl | exact cExtract rfl rfl rfl)
             rotate_left))
    intro a w5 hF hb hN
    have hBs := hB.size
    replace hB := hB.trans (hb.mono hB.size)
    dsimp only [ext, Option.getD] at hF
    repeat with_reducible first | refine wp_seq ?_ | refine nThen ?_ | refine nBlk ?_ | refine wp_skip ?_ | refine wp_block ?_ | refine wp_exit ?_ | refine xThen ?_ | refine xHere ?_ | refine xFar (by decide) ?_ | refine wp_ret ?_ | refine rThen ?_ | refine rBlk ?_
    refine ret1 hF rfl rfl fun z hz => ?_
    have hz : z = .slice (some ⟨g, off, none⟩) D.length cap := hz
    subst hz
    rw [hdd]
    exact ⟨D.length, rfl, rfl, hs0.below hB, Keeps.of_below hB⟩
  have hlt : k < D.length := by simpa using hlt
  have hsl : (Ty.sums 34 D).p w4 (.slice (some ⟨g, off, none⟩) D.length cap) := (hs0.below hB).sl
  repeat with_reducible first | refine wp_seq ?_ | refine nThen ?_ | refine nBlk ?_ | refine wp_skip ?_ | refine wp_block ?_ | refine wp_exit ?_ | refine xThen ?_ | refine xHere ?_ | refine xFar (by decide) ?_ | refine wp_ret ?_ | refine rThen ?_ | refine rBlk ?_
  refine' reg_all hF ?_ mixed (by kernel_rfl) ?_
  rotate_left
  · repeat (first
        | exact Line.nil
        | (refine' Line.cons rfl (.no rfl rfl rfl rfl rfl rfl) ?_; rotate_left)
        | ((first | refine' Line.cons rfl (.run rfl rfl ?_) ?_ | refine' Line.cons rfl (.yes rfl rfl rfl rfl ?_) ?_)
           any_goals (first | exact cSub (r := ((k - 1 : Nat) : Int)) rfl rfl rfl (by omega) | exact cIndexSum (k := k - 1) rfl (.l rfl hsl) rfl Try.underlying24 sizeS (by omega) | exact cIndexSum (k := k) rfl (.l rfl hsl) rfl Try.underlying24 sizeS hlt | exact cLoadSum rfl (.t rfl) Try.underlying34 sizeS | exact cEqlAgg rfl rfl rfl guardS (eqlS _ _) | exact cMove rfl rfl | exact cAssign rfl rfl | exact cPickT rfl rfl rfl | exact cPickF rfl rfl rfl | exact cNot rfl rfl | exact cLss rfl rfl rfl | exact cLeq rfl rfl rfl | exact cGtr rfl rfl rfl | exact cGeq rfl rfl rfl | exact cEql rfl rfl rfl | exact cNeq rfl rfl rfl | exact cExtract rfl rfl rfl)
           rotate_left))
  intro a w5 hF hb hN
  have hBs := hB.size
  replace hB := hB.trans (hb.mono hB.size)
  dsimp only [ext, Option.getD] at hF
  repeat with_reducible first | refine wp_seq ?_ | refine nThen ?_ | refine nBlk ?_ | refine wp_skip ?_ | refine wp_block ?_ | refine wp_exit ?_ | refine xThen ?_ | refine xHere ?_ | refine xFar (by decide) ?_ | refine wp_ret ?_ | refine rThen ?_ | refine rBlk ?_
  refine cond_ty hF rfl (fun hdup => ?_) (fun hnew => ?_)
  rotate_left
  · have hnew : ¬ D.getD k default = D.getD (k - 1) default := by simpa using hnew
    repeat with_reducible first | refine wp_seq ?_ | refine nThen ?_ | refine nBlk ?_ | refine wp_skip ?_ | refine wp_block ?_ | refine wp_exit ?_ | refine xThen ?_ | refine xHere ?_ | refine xFar (by decide) ?_ | refine wp_ret ?_ | refine rThen ?_ | refine rBlk ?_
    refine' reg_all hF ?_ mixed (by kernel_rfl) ?_
    rotate_left
    · repeat (first
          | exact Line.nil
          | (refine' Line.cons rfl (.no rfl rfl rfl rfl rfl rfl) ?_; rotate_left)
          | ((first | refine' Line.cons rfl (.run rfl rfl ?_) ?_ | refine' Line.cons rfl (.yes rfl rfl rfl rfl ?_) ?_)
             any_goals (first | exact cAdd (r := ((k + 1 : Nat) : Int)) rfl rfl rfl (by omega) | exact cMove rfl rfl | exact cAssign rfl rfl | exact cPickT rfl rfl rfl | exact cPickF rfl rfl rfl | exact cNot rfl rfl | exact cLss rfl rfl rfl | exact cLeq rfl rfl rfl | exact cGtr rfl rfl rfl | exact cGeq rfl rfl rfl | exact cEql rfl rfl rfl | exact cNeq rfl rfl rfl | exact cExtract rfl rfl rfl)
             rotate_left))
    intro a w6 hF hb hN
    have hBs := hB.size
    replace hB := hB.trans (hb.mono hB.size)
    dsimp only [ext, Option.getD] at hF
    repeat with_reducible first | refine wp_seq ?_ | refine nThen ?_ | refine nBlk ?_ | refine wp_skip ?_ | refine wp_block ?_ | refine wp_exit ?_ | refine xThen ?_ | refine xHere ?_ | refine xFar (by decide) ?_ | refine wp_ret ?_ | refine rThen ?_ | refine rBlk ?_
    refine ⟨m - 1, by omega, k + 1, by omega, by omega, hF.keep [0, 3], hB, ?_⟩
    rw [ddL_new (.inr hnew), hdd, take_snoc' D hlt]
  have hdup : D.getD k default = D.getD (k - 1) default := by simpa using hdup
  repeat with_reducible first | refine wp_seq ?_ | refine nThen ?_ | refine nBlk ?_ | refine wp_skip ?_ | refine wp_block ?_ | refine wp_exit ?_ | refine xThen ?_ | refine xHere ?_ | refine xFar (by decide) ?_ | refine wp_ret ?_ | refine rThen ?_ | refine rBlk ?_
  refine' reg_all hF ?_ mixed (by kernel_rfl) ?_
  rotate_left
  · repeat (first
        | exact Line.nil
        | (refine' Line.cons rfl (.no rfl rfl rfl rfl rfl rfl) ?_; rotate_left)
        | ((first | refine' Line.cons rfl (.run rfl rfl ?_) ?_ | refine' Line.cons rfl (.yes rfl rfl rfl rfl ?_) ?_)
           any_goals (first | exact cSliceLoEx rfl rfl rfl Try.underlying24 sizeS hlt hcap | exact cMove rfl rfl | exact cAssign rfl rfl | exact cPickT rfl rfl rfl | exact cPickF rfl rfl rfl | exact cNot rfl rfl | exact cLss rfl rfl rfl | exact cLeq rfl rfl rfl | exact cGtr rfl rfl rfl | exact cGeq rfl rfl rfl | exact cEql rfl rfl rfl | exact cNeq rfl rfl rfl | exact cExtract rfl rfl rfl)
           rotate_left))
  intro a w6 hF hb hN
  have hBs := hB.size
  replace hB := hB.trans (hb.mono hB.size)
  dsimp only [ext, Option.getD] at hF
  repeat with_reducible first | refine wp_seq ?_ | refine nThen ?_ | refine nBlk ?_ | refine wp_skip ?_ | refine wp_block ?_ | refine wp_exit ?_ | refine xThen ?_ | refine xHere ?_ | refine xFar (by decide) ?_ | refine wp_ret ?_ | refine rThen ?_ | refine rBlk ?_
  refine' reg_all hF ?_ mixed (by kernel_rfl) ?_
  rotate_left
  · repeat (first
        | exact Line.nil
        | (refine' Line.cons rfl (.no rfl rfl rfl rfl rfl rfl) ?_; rotate_left)
        | ((first | refine' Line.cons rfl (.run rfl rfl ?_) ?_ | refine' Line.cons rfl (.yes rfl rfl rfl rfl ?_) ?_)
           any_goals (first | exact cMove rfl rfl | exact cAssign rfl rfl | exact cPickT rfl rfl rfl | exact cPickF rfl rfl rfl | exact cNot rfl rfl | exact cLss rfl rfl rfl | exact cLeq rfl rfl rfl | exact cGtr rfl rfl rfl | exact cGeq rfl rfl rfl | exact cEql rfl rfl rfl | exact cNeq rfl rfl rfl | exact cExtract rfl rfl rfl)
           rotate_left))
  intro a w7 hF hb hN
  have hBs := hB.size
  replace hB := hB.trans (hb.mono hB.size)
  dsimp only [ext, Option.getD] at hF
  repeat with_reducible first | refine wp_seq ?_ | refine nThen ?_ | refine nBlk ?_ | refine wp_skip ?_ | refine wp_block ?_ | refine wp_exit ?_ | refine xThen ?_ | refine xHere ?_ | refine xFar (by decide) ?_ | refine wp_ret ?_ | refine rThen ?_ | refine rBlk ?_
  refine loop_ty (fun m a wr => ∃ (q j : Nat) (E : List Sm), k + q + m = D.length ∧ 1 ≤ q ∧ E.length = D.length ∧ j = (ddL D (k + q)).length ∧ j ≤ k + q - 1 ∧ E.take j = ddL D (k + q) ∧ (∀ i, k + q - 1 ≤ i → E.getD i default = D.getD i default) ∧
      Fr 61 [(0, Ty.ex (.slice (some ⟨g, off, none⟩) D.length cap)), (4, Ty.ex (.slice (some ⟨g, off + k * 32, none⟩) (D.length - k) (cap - k))), (3, Ty.ex (.int .i64 (j : Int))), (5, Ty.ex (.int .i64 (q : Int)))] a wr ∧ SegL wr 34 32 g off D.length cap (flat E) ∧ Keeps [g] w wr) (D.length - (k + 1)) ?_ ?_
  · refine ⟨1, k, D, by omega, Nat.le_refl _, rfl, ?_, by omega, ?_, fun i _ => rfl, hF.keep [0, 4, 3, 5], hs0.below hB, Keeps.of_below hB⟩
    · rw [ddL_old (by omega) hdup, hdd]; simp; omega
    · rw [ddL_old (by omega) hdup, hdd]
  clear hF hB hsl hs0
  rintro m a wr ⟨q, j, E, hq, hq1, hE, hj, hjle, hjt, hsame, hF, hseg, hKw⟩
  have hB := Below.refl wr.heap.size wr
  have hs2 : (Ty.sums 34 (E.drop k)).p wr (.slice (some ⟨g, off + k * 32, none⟩) (D.length - k) (cap - k)) := by
    have h := hseg.drop_sl (k := k) (by omega)
    rw [flat_drop] at h
    show SlP _ _ _ (E.drop k).length _
    rw [List.length_drop, hE]
    exact h
  repeat with_reducible first | refine wp_seq ?_ | refine nThen ?_ | refine nBlk ?_ | refine wp_skip ?_ | refine wp_block ?_ | refine wp_exit ?_ | refine xThen ?_ | refine xHere ?_ | refine xFar (by decide) ?_ | refine wp_ret ?_ | refine rThen ?_ | refine rBlk ?_
  refine' reg_all hF ?_ mixed (by kernel_rfl) ?_
  rotate_left
  · repeat (first
        | exact Line.nil
        | (refine' Line.cons rfl (.no rfl rfl rfl rfl rfl rfl) ?_; rotate_left)
        | ((first | refine' Line.cons rfl (.run rfl rfl ?_) ?_ | refine' Line.cons rfl (.yes rfl rfl rfl rfl ?_) ?_)
           any_goals (first | exact cLenEx rfl rfl Try.underlying24 | exact cMove rfl rfl | exact cAssign rfl rfl | exact cPickT rfl rfl rfl | exact cPickF rfl rfl rfl | exact cNot rfl rfl | exact cLss rfl rfl rfl | exact cLeq rfl rfl rfl | exact cGtr rfl rfl rfl | exact cGeq rfl rfl rfl | exact cEql rfl rfl rfl | exact cNeq rfl rfl rfl | exact cExtract rfl rfl rfl)
           rotate_left))
  intro a w8 hF hb hN
  have hBs := hB.size
  replace hB := hB.trans (hb.mono hB.size)
  dsimp only [ext, Option.getD] at hF
  repeat with_reducible first | refine wp_seq ?_ | refine nThen ?_ | refine nBlk ?_ | refine wp_skip ?_ | refine wp_block ?_ | refine wp_exit ?_ | refine xThen ?_ | refine xHere ?_ | refine xFar (by decide) ?_ | refine wp_ret ?_ | refine rThen ?_ | refine rBlk ?_
  refine cond_ty hF rfl (fun hlt2 => ?_) (fun hge2 => ?_)
  rotate_left
  · have hge2 : ¬ q < D.length - k := by simpa using hge2
    have hend : k + q = D.length := by omega
    rw [hend] at hj hjt
    have hjn : j < D.length := by omega
    repeat with_reducible first | refine wp_seq ?_ | refine nThen ?_ | refine nBlk ?_ | refine wp_skip ?_ | refine wp_block ?_ | refine wp_exit ?_ | refine xThen ?_ | refine xHere ?_ | refine xFar (by decide) ?_ | refine wp_ret ?_ | refine rThen ?_ | refine rBlk ?_
    refine' region_ty 3 mixed (by kernel_rfl) hF ?_ ?_
    rotate_left
    · simp only [List.take_succ_cons, List.take_zero]
      repeat (first
          | exact Line.nil
          | (refine' Line.cons rfl (.no rfl rfl rfl rfl rfl rfl) ?_; rotate_left)
          | ((first | refine' Line.cons rfl (.run rfl rfl ?_) ?_ | refine' Line.cons rfl (.yes rfl rfl rfl rfl ?_) ?_)
             any_goals (first | exact cSliceLoEx rfl rfl rfl Try.underlying24 sizeS hjn hcap | exact cMove rfl rfl | exact cAssign rfl rfl | exact cPickT rfl rfl rfl | exact cPickF rfl rfl rfl | exact cNot rfl rfl | exact cLss rfl rfl rfl | exact cLeq rfl rfl rfl | exact cGtr rfl rfl rfl | exact cGeq rfl rfl rfl | exact cEql rfl rfl rfl | exact cNeq rfl rfl rfl | exact cExtract rfl rfl rfl)
             rotate_left))
    intro a w9 hF hb hN
    have hBs := hB.size
    replace hB := hB.trans (hb.mono hB.size)
    simp only [List.take_succ_cons, List.take_zero, List.drop_succ_cons, List.drop_zero] at hF hN ⊢
    dsimp only [ext, Option.getD] at hF
    refine tlClear (Δ := [(0, Ty.ex (.slice (some ⟨g, off, none⟩) D.length cap)), (3, Ty.ex (.int .i64 (j : Int)))]) (k := j) hF rfl rfl rfl rfl Try.underlying24 infoS zero32_size zeroS_one (hseg.below hB) (by omega) (hF.keep [0, 3]) rfl ?_
    intro w10 zs hzl hF hseg2 hk2
    refine wpList_nil ?_
    repeat with_reducible first | refine wp_seq ?_ | refine nThen ?_ | refine nBlk ?_ | refine wp_skip ?_ | refine wp_block ?_ | refine wp_exit ?_ | refine xThen ?_ | refine xHere ?_ | refine xFar (by decide) ?_ | refine wp_ret ?_ | refine rThen ?_ | refine rBlk ?_
    replace hKw : Keeps [g] w w10 := (hKw.trans (Keeps.of_below hB)).trans hk2
    have hB := Below.refl w10.heap.size w10
    refine' reg_all hF ?_ mixed (by kernel_rfl) ?_
    rotate_left
    · repeat (first
          | exact Line.nil
          | (refine' Line.cons rfl (.no rfl rfl rfl rfl rfl rfl) ?_; rotate_left)
          | ((first | refine' Line.cons rfl (.run rfl rfl ?_) ?_ | refine' Line.cons rfl (.yes rfl rfl rfl rfl ?_) ?_)
             any_goals (first | exact cSliceHiEx rfl rfl rfl Try.underlying24 sizeS (by omega) | exact cMove rfl rfl | exact cAssign rfl rfl | exact cPickT rfl rfl rfl | exact cPickF rfl rfl rfl | exact cNot rfl rfl | exact cLss rfl rfl rfl | exact cLeq rfl rfl rfl | exact cGtr rfl rfl rfl | exact cGeq rfl rfl rfl | exact cEql rfl rfl rfl | exact cNeq rfl rfl rfl | exact cExtract rfl rfl rfl)
             rotate_left))
    intro a w11 hF hb hN
    have hBs := hB.size
    replace hB := hB.trans (hb.mono hB.size)
    dsimp only [ext, Option.getD] at hF
    repeat with_reducible first | refine wp_seq ?_ | refine nThen ?_ | refine nBlk ?_ | refine wp_skip ?_ | refine wp_block ?_ | refine wp_exit ?_ | refine xThen ?_ | refine xHere ?_ | refine xFar (by decide) ?_ | refine wp_ret ?_ | refine rThen ?_ | refine rBlk ?_
    refine ret1 hF rfl rfl fun z hz => ?_
    have hz : z = .slice (some ⟨g, off, none⟩) j cap := hz
    subst hz
    refine ⟨j, rfl, hj, ?_, hKw.trans (Keeps.of_below hB)⟩
    have h5 := (hseg2.below hB).take (k := j) (by omega)
    have h6 : (over (flat E) (j * 32) zs).take (j * 32) = flat (ddL D D.length) := by
      unfold over
      rw [List.append_assoc, List.take_append_of_le_length (by rw [List.length_take, flat_len]; omega), List.take_take, Nat.min_self, flat_take, hjt]
    rwa [h6] at h5
  have hlt2 : q < D.length - k := by simpa using hlt2
  have hs2' := (Ty.sums 34 (E.drop k)).below hs2 hB
  have e1 : (E.drop k).getD q default = D.getD (k + q) default := by rw [getD_drop]; exact hsame _ (by omega)
  have e2 : (E.drop k).getD (q - 1) default = D.getD (k + q - 1) default := by rw [getD_drop, show k + (q - 1) = k + q - 1 by omega]; exact hsame _ (by omega)
  repeat with_reducible first | refine wp_seq ?_ | refine nThen ?_ | refine nBlk ?_ | refine wp_skip ?_ | refine wp_block ?_ | refine wp_exit ?_ | refine xThen ?_ | refine xHere ?_ | refine xFar (by decide) ?_ | refine wp_ret ?_ | refine rThen ?_ | refine rBlk ?_
  refine' reg_all hF ?_ mixed (by kernel_rfl) ?_
  rotate_left
  · repeat (first
        | exact Line.nil
        | (refine' Line.cons rfl (.no rfl rfl rfl rfl rfl rfl) ?_; rotate_left)
        | ((first | refine' Line.cons rfl (.run rfl rfl ?_) ?_ | refine' Line.cons rfl (.yes rfl rfl rfl rfl ?_) ?_)
           any_goals (first | exact cSub (r := ((q - 1 : Nat) : Int)) rfl rfl rfl (by omega) | exact cIndexSum (k := q - 1) rfl (.l rfl hs2') rfl Try.underlying24 sizeS (by simp; omega) | exact cIndexSum (k := q) rfl (.l rfl hs2') rfl Try.underlying24 sizeS (by simp; omega) | exact cLoadSum rfl (.t rfl) Try.underlying34 sizeS | exact cNeqAgg rfl rfl rfl guardS (neqS _ _) | exact cMove rfl rfl | exact cAssign rfl rfl | exact cPickT rfl rfl rfl | exact cPickF rfl rfl rfl | exact cNot rfl rfl | exact cLss rfl rfl rfl | exact cLeq rfl rfl rfl | exact cGtr rfl rfl rfl | exact cGeq rfl rfl rfl | exact cEql rfl rfl rfl | exact cNeq rfl rfl rfl | exact cExtract rfl rfl rfl)
           rotate_left))
  intro a w9 hF hb hN
  have hBs := hB.size
  replace hB := hB.trans (hb.mono hB.size)
  dsimp only [ext, Option.getD] at hF
  repeat with_reducible first | refine wp_seq ?_ | refine nThen ?_ | refine nBlk ?_ | refine wp_skip ?_ | refine wp_block ?_ | refine wp_exit ?_ | refine xThen ?_ | refine xHere ?_ | refine xFar (by decide) ?_ | refine wp_ret ?_ | refine rThen ?_ | refine rBlk ?_
  rw [e1, e2] at hF
  refine cond_ty hF rfl (fun hnew => ?_) (fun hold => ?_)
  · have hnew : ¬ D.getD (k + q) default = D.getD (k + q - 1) default := by simpa using hnew
    have hs3 := (Ty.sums 34 (E.drop k)).below hs2 hB
    repeat with_reducible first | refine wp_seq ?_ | refine nThen ?_ | refine nBlk ?_ | refine wp_skip ?_ | refine wp_block ?_ | refine wp_exit ?_ | refine xThen ?_ | refine xHere ?_ | refine xFar (by decide) ?_ | refine wp_ret ?_ | refine rThen ?_ | refine rBlk ?_
    refine' region_ty 7 mixed (by kernel_rfl) hF ?_ ?_
    rotate_left
    · simp only [List.take_succ_cons, List.take_zero]
      repeat (first
          | exact Line.nil
          | (refine' Line.cons rfl (.no rfl rfl rfl rfl rfl rfl) ?_; rotate_left)
          | ((first | refine' Line.cons rfl (.run rfl rfl ?_) ?_ | refine' Line.cons rfl (.yes rfl rfl rfl rfl ?_) ?_)
             any_goals (first | exact cIndexSum (k := q) rfl (.l rfl hs3) rfl Try.underlying24 sizeS (by simp; omega) | exact cLoadSum rfl (.t rfl) Try.underlying34 sizeS | exact cIndexEx (k := j) rfl rfl rfl Try.underlying24 sizeS (by omega) | exact cMove rfl rfl | exact cAssign rfl rfl | exact cPickT rfl rfl rfl | exact cPickF rfl rfl rfl | exact cNot rfl rfl | exact cLss rfl rfl rfl | exact cLeq rfl rfl rfl | exact cGtr rfl rfl rfl | exact cGeq rfl rfl rfl | exact cEql rfl rfl rfl | exact cNeq rfl rfl rfl | exact cExtract rfl rfl rfl)
             rotate_left))
    intro a w10 hF hb hN
    have hBs := hB.size
    replace hB := hB.trans (hb.mono hB.size)
    simp only [List.take_succ_cons, List.take_zero, List.drop_succ_cons, List.drop_zero] at hF hN ⊢
    dsimp only [ext, Option.getD] at hF
    rw [e1] at hF
    refine tlStoreAt (Δ := [(0, Ty.ex (.slice (some ⟨g, off, none⟩) D.length cap)), (4, Ty.ex (.slice (some ⟨g, off + k * 32, none⟩) (D.length - k) (cap - k))), (3, Ty.ex (.int .i64 (j : Int))), (5, Ty.ex (.int .i64 (q : Int)))]) (k := j * 32) hF rfl rfl rfl rfl rfl (hseg.below hB) (by rw [u8s_size, Sm.len]; omega) (by rw [u8s_size, Sm.len]; exact sizeS) (u8s_one _) (hF.keep [0, 4, 3, 5]) rfl ?_
    intro w11 hF hseg2 hk2
    refine wpList_nil ?_
    repeat with_reducible first | refine wp_seq ?_ | refine nThen ?_ | refine nBlk ?_ | refine wp_skip ?_ | refine wp_block ?_ | refine wp_exit ?_ | refine xThen ?_ | refine xHere ?_ | refine xFar (by decide) ?_ | refine wp_ret ?_ | refine rThen ?_ | refine rBlk ?_
    replace hKw : Keeps [g] w w11 := (hKw.trans (Keeps.of_below hB)).trans hk2
    have hB := Below.refl w11.heap.size w11
    refine' reg_all hF ?_ mixed (by kernel_rfl) ?_
    rotate_left
    · repeat (first
          | exact Line.nil
          | (refine' Line.cons rfl (.no rfl rfl rfl rfl rfl rfl) ?_; rotate_left)
          | ((first | refine' Line.cons rfl (.run rfl rfl ?_) ?_ | refine' Line.cons rfl (.yes rfl rfl rfl rfl ?_) ?_)
             any_goals (first | exact cAdd (r := ((j + 1 : Nat) : Int)) rfl rfl rfl (by omega) | exact cMove rfl rfl | exact cAssign rfl rfl | exact cPickT rfl rfl rfl | exact cPickF rfl rfl rfl | exact cNot rfl rfl | exact cLss rfl rfl rfl | exact cLeq rfl rfl rfl | exact cGtr rfl rfl rfl | exact cGeq rfl rfl rfl | exact cEql rfl rfl rfl | exact cNeq rfl rfl rfl | exact cExtract rfl rfl rfl)
             rotate_left))
    intro a w12 hF hb hN
    have hBs := hB.size
    replace hB := hB.trans (hb.mono hB.size)
    dsimp only [ext, Option.getD] at hF
    repeat with_reducible first | refine wp_seq ?_ | refine nThen ?_ | refine nBlk ?_ | refine wp_skip ?_ | refine wp_block ?_ | refine wp_exit ?_ | refine xThen ?_ | refine xHere ?_ | refine xFar (by decide) ?_ | refine wp_ret ?_ | refine rThen ?_ | refine rBlk ?_
    refine' reg_all hF ?_ mixed (by kernel_rfl) ?_
    rotate_left
    · repeat (first
          | exact Line.nil
          | (refine' Line.cons rfl (.no rfl rfl rfl rfl rfl rfl) ?_; rotate_left)
          | ((first | refine' Line.cons rfl (.run rfl rfl ?_) ?_ | refine' Line.cons rfl (.yes rfl rfl rfl rfl ?_) ?_)
             any_goals (first | exact cAdd (r := ((q + 1 : Nat) : Int)) rfl rfl rfl (by omega) | exact cMove rfl rfl | exact cAssign rfl rfl | exact cPickT rfl rfl rfl | exact cPickF rfl rfl rfl | exact cNot rfl rfl | exact cLss rfl rfl rfl | exact cLeq rfl rfl rfl | exact cGtr rfl rfl rfl | exact cGeq rfl rfl rfl | exact cEql rfl rfl rfl | exact cNeq rfl rfl rfl | exact cExtract rfl rfl rfl)
             rotate_left))
    intro a w13 hF hb hN
    have hBs := hB.size
    replace hB := hB.trans (hb.mono hB.size)
    dsimp only [ext, Option.getD] at hF
    repeat with_reducible first | refine wp_seq ?_ | refine nThen ?_ | refine nBlk ?_ | refine wp_skip ?_ | refine wp_block ?_ | refine wp_exit ?_ | refine xThen ?_ | refine xHere ?_ | refine xFar (by decide) ?_ | refine wp_ret ?_ | refine rThen ?_ | refine rBlk ?_
    have h7 : over (flat E) (j * 32) (u8s (D.getD (k + q) default).l).toList = flat (E.set j (D.getD (k + q) default)) := by
      rw [u8s_list]
      exact over_flat E _ (by omega)
    rw [h7] at hseg2
    have hdd2 : ddL D (k + (q + 1)) = ddL D (k + q) ++ [D.getD (k + q) default] := ddL_new (.inr hnew)
    refine ⟨m - 1, by omega, q + 1, j + 1, E.set j (D.getD (k + q) default), by omega, by omega, by simp [hE], ?_, by omega, ?_, fun i hi => ?_, hF.keep [0, 4, 3, 5], hseg2.below hB, hKw.trans (Keeps.of_below hB)⟩
    · rw [hdd2, List.length_append, ← hj]; rfl
    · rw [hdd2, ← hjt, take_snoc' _ (by rw [List.length_set]; omega), getD_set E _ (by omega), if_pos rfl, List.take_set_of_le (Nat.le_refl _)]
    · rw [getD_set E _ (by omega), if_neg (by omega)]
      exact hsame i (by omega)
  · have hold : D.getD (k + q) default = D.getD (k + q - 1) default := by simpa using hold
    repeat with_reducible first | refine wp_seq ?_ | refine nThen ?_ | refine nBlk ?_ | refine wp_skip ?_ | refine wp_block ?_ | refine wp_exit ?_ | refine xThen ?_ | refine xHere ?_ | refine xFar (by decide) ?_ | refine wp_ret ?_ | refine rThen ?_ | refine rBlk ?_
    refine' reg_all hF ?_ mixed (by kernel_rfl) ?_
    rotate_left
    · repeat (first
          | exact Line.nil
          | (refine' Line.cons rfl (.no rfl rfl rfl rfl rfl rfl) ?_; rotate_left)
          | ((first | refine' Line.cons rfl (.run rfl rfl ?_) ?_ | refine' Line.cons rfl (.yes rfl rfl rfl rfl ?_) ?_)
             any_goals (first | exact cAdd (r := ((q + 1 : Nat) : Int)) rfl rfl rfl (by omega) | exact cMove rfl rfl | exact cAssign rfl rfl | exact cPickT rfl rfl rfl | exact cPickF rfl rfl rfl | exact cNot rfl rfl | exact cLss rfl rfl rfl | exact cLeq rfl rfl rfl | exact cGtr rfl rfl rfl | exact cGeq rfl rfl rfl | exact cEql rfl rfl rfl | exact cNeq rfl rfl rfl | exact cExtract rfl rfl rfl)
             rotate_left))
    intro a w10 hF hb hN
    have hBs := hB.size
    replace hB := hB.trans (hb.mono hB.size)
    dsimp only [ext, Option.getD] at hF
    repeat with_reducible first | refine wp_seq ?_ | refine nThen ?_ | refine nBlk ?_ | refine wp_skip ?_ | refine wp_block ?_ | refine wp_exit ?_ | refine xThen ?_ | refine xHere ?_ | refine xFar (by decide) ?_ | refine wp_ret ?_ | refine rThen ?_ | refine rBlk ?_
    have hdd2 : ddL D (k + (q + 1)) = ddL D (k + q) := ddL_old (m := k + q) (by omega) hold
    exact ⟨m - 1, by omega, q + 1, j, E, by omega, by omega, hE, by rw [hdd2]; exact hj, by omega, by rw [hdd2]; exact hjt, fun i hi => hsame i (by omega), hF.keep [0, 4, 3, 5], hseg.below hB, hKw.trans (Keeps.of_below hB)⟩

set_option maxRecDepth 100000 in
theorem compact_none (w : World) : Calls Try.prog 67 #[.slice none 0 0] w fun e w' => e = .returned (.slice none 0 0) ∧ Below w.heap.size w w' := by
  refine enter_ty 61 [Ty.ex (.slice none 0 0)] Try.func67 rfl (by kernel_rfl) ⟨rfl, trivial⟩ fun a hF => ?_
  have hB := Below.refl w.heap.size w
  repeat with_reducible first | refine wp_seq ?_ | refine nThen ?_ | refine nBlk ?_ | refine wp_skip ?_ | refine wp_block ?_ | refine wp_exit ?_ | refine xThen ?_ | refine xHere ?_ | refine xFar (by decide) ?_ | refine wp_ret ?_ | refine rThen ?_ | refine rBlk ?_
  refine' reg_all hF ?_ mixed (by kernel_rfl) ?_
  rotate_left
  · repeat (first
        | exact Line.nil
        | (refine' Line.cons rfl (.no rfl rfl rfl rfl rfl rfl) ?_; rotate_left)
        | ((first | refine' Line.cons rfl (.run rfl rfl ?_) ?_ | refine' Line.cons rfl (.yes rfl rfl rfl rfl ?_) ?_)
           any_goals (first | exact cMove rfl rfl | exact cAssign rfl rfl | exact cPickT rfl rfl rfl | exact cPickF rfl rfl rfl | exact cNot rfl rfl | exact cLss rfl rfl rfl | exact cLeq rfl rfl rfl | exact cGtr rfl rfl rfl | exact cGeq rfl rfl rfl | exact cEql rfl rfl rfl | exact cNeq rfl rfl rfl | exact cExtract rfl rfl rfl)
           rotate_left))
  intro a w1 hF hb hN
  have hBs := hB.size
  replace hB := hB.trans (hb.mono hB.size)
  dsimp only [ext, Option.getD] at hF
  repeat with_reducible first | refine wp_seq ?_ | refine nThen ?_ | refine nBlk ?_ | refine wp_skip ?_ | refine wp_block ?_ | refine wp_exit ?_ | refine xThen ?_ | refine xHere ?_ | refine xFar (by decide) ?_ | refine wp_ret ?_ | refine rThen ?_ | refine rBlk ?_
  refine' reg_all hF ?_ mixed (by kernel_rfl) ?_
  rotate_left
  · repeat (first
        | exact Line.nil
        | (refine' Line.cons rfl (.no rfl rfl rfl rfl rfl rfl) ?_; rotate_left)
        | ((first | refine' Line.cons rfl (.run rfl rfl ?_) ?_ | refine' Line.cons rfl (.yes rfl rfl rfl rfl ?_) ?_)
           any_goals (first | exact cLenEx rfl rfl Try.underlying24 | exact cMove rfl rfl | exact cAssign rfl rfl | exact cPickT rfl rfl rfl | exact cPickF rfl rfl rfl | exact cNot rfl rfl | exact cLss rfl rfl rfl | exact cLeq rfl rfl rfl | exact cGtr rfl rfl rfl | exact cGeq rfl rfl rfl | exact cEql rfl rfl rfl | exact cNeq rfl rfl rfl | exact cExtract rfl rfl rfl)
           rotate_left))
  intro a w2 hF hb hN
  have hBs := hB.size
  replace hB := hB.trans (hb.mono hB.size)
  dsimp only [ext, Option.getD] at hF
  repeat with_reducible first | refine wp_seq ?_ | refine nThen ?_ | refine nBlk ?_ | refine wp_skip ?_ | refine wp_block ?_ | refine wp_exit ?_ | refine xThen ?_ | refine xHere ?_ | refine xFar (by decide) ?_ | refine wp_ret ?_ | refine rThen ?_ | refine rBlk ?_
  refine cond_ty hF rfl (fun h0 => ?_) (fun h1 => ?_)
  · repeat with_reducible first | refine wp_seq ?_ | refine nThen ?_ | refine nBlk ?_ | refine wp_skip ?_ | refine wp_block ?_ | refine wp_exit ?_ | refine xThen ?_ | refine xHere ?_ | refine xFar (by decide) ?_ | refine wp_ret ?_ | refine rThen ?_ | refine rBlk ?_
    refine' reg_all hF ?_ mixed (by kernel_rfl) ?_
    rotate_left
    · repeat (first
          | exact Line.nil
          | (refine' Line.cons rfl (.no rfl rfl rfl rfl rfl rfl) ?_; rotate_left)
          | ((first | refine' Line.cons rfl (.run rfl rfl ?_) ?_ | refine' Line.cons rfl (.yes rfl rfl rfl rfl ?_) ?_)
             any_goals (first | exact cMove rfl rfl | exact cAssign rfl rfl | exact cPickT rfl rfl rfl | exact cPickF rfl rfl rfl | exact cNot rfl rfl | exact cLss rfl rfl rfl | exact cLeq rfl rfl rfl | exact cGtr rfl rfl rfl | exact cGeq rfl rfl rfl | exact cEql rfl rfl rfl | exact cNeq rfl rfl rfl | exact cExtract rfl rfl rfl)
             rotate_left))
    intro a w3 hF hb hN
    have hBs := hB.size
    replace hB := hB.trans (hb.mono hB.size)
    dsimp only [ext, Option.getD] at hF
    repeat with_reducible first | refine wp_seq ?_ | refine nThen ?_ | refine nBlk ?_ | refine wp_skip ?_ | refine wp_block ?_ | refine wp_exit ?_ | refine xThen ?_ | refine xHere ?_ | refine xFar (by decide) ?_ | refine wp_ret ?_ | refine rThen ?_ | refine rBlk ?_
    refine ret1 hF rfl rfl fun z hz => ?_
    have hz : z = .slice none 0 0 := hz
    subst hz
    exact ⟨rfl, hB⟩
  · exact absurd (of_decide_eq_false h1) (by decide)

/-- A set's row: sorted, each once. -/
def setL (D : List Sm) : List Sm := ddL (sortL D) D.length
theorem setL_len (D : List Sm) : (setL D).length ≤ D.length := ddL_le _ _
set_option maxRecDepth 100000 in
set_option maxHeartbeats 1000000 in
theorem of_ty (D : List Sm) (hD : D.length ≤ 1000000) : FnSeg1 Try.prog 19 (Ty.sums 34 D) 34 32 (setL D).length (flat (setL D)) := by
  refine ⟨fun args w => by kernel_rfl, fun w v hv => ?_⟩
  refine enter_ty 10 [Ty.sums 34 D] Try.func19 rfl (by kernel_rfl) ⟨hv, trivial⟩ fun a hF => ?_
  have hB := Below.refl w.heap.size w
  repeat with_reducible first | refine wp_seq ?_ | refine nThen ?_ | refine nBlk ?_ | refine wp_skip ?_ | refine wp_block ?_ | refine wp_exit ?_ | refine xThen ?_ | refine xHere ?_ | refine xFar (by decide) ?_ | refine wp_ret ?_ | refine rThen ?_ | refine rBlk ?_
  refine' reg_all hF ?_ mixed (by kernel_rfl) ?_
  rotate_left
  · repeat (first
        | exact Line.nil
        | (refine' Line.cons rfl (.no rfl rfl rfl rfl rfl rfl) ?_; rotate_left)
        | ((first | refine' Line.cons rfl (.run rfl rfl ?_) ?_ | refine' Line.cons rfl (.yes rfl rfl rfl rfl ?_) ?_)
           any_goals (first | exact cMove rfl rfl | exact cAssign rfl rfl | exact cPickT rfl rfl rfl | exact cPickF rfl rfl rfl | exact cNot rfl rfl | exact cLss rfl rfl rfl | exact cLeq rfl rfl rfl | exact cGtr rfl rfl rfl | exact cGeq rfl rfl rfl | exact cEql rfl rfl rfl | exact cNeq rfl rfl rfl | exact cExtract rfl rfl rfl)
           rotate_left))
  intro a w1 hF hb hN
  have hBs := hB.size
  replace hB := hB.trans (hb.mono hB.size)
  dsimp only [ext, Option.getD] at hF
  repeat with_reducible first | refine wp_seq ?_ | refine nThen ?_ | refine nBlk ?_ | refine wp_skip ?_ | refine wp_block ?_ | refine wp_exit ?_ | refine xThen ?_ | refine xHere ?_ | refine xFar (by decide) ?_ | refine wp_ret ?_ | refine rThen ?_ | refine rBlk ?_
  refine' reg_all hF ?_ mixed (by kernel_rfl) ?_
  rotate_left
  · repeat (first
        | exact Line.nil
        | (refine' Line.cons rfl (.no rfl rfl rfl rfl rfl rfl) ?_; rotate_left)
        | ((first | refine' Line.cons rfl (.run rfl rfl ?_) ?_ | refine' Line.cons rfl (.yes rfl rfl rfl rfl ?_) ?_)
           any_goals (first | exact cCallS1 rfl (.t rfl) (cloneS_ty D hD) | exact cMove rfl rfl | exact cAssign rfl rfl | exact cPickT rfl rfl rfl | exact cPickF rfl rfl rfl | exact cNot rfl rfl | exact cLss rfl rfl rfl | exact cLeq rfl rfl rfl | exact cGtr rfl rfl rfl | exact cGeq rfl rfl rfl | exact cEql rfl rfl rfl | exact cNeq rfl rfl rfl | exact cExtract rfl rfl rfl)
           rotate_left))
  intro a w2 hF hb hN
  have hBs := hB.size
  replace hB := hB.trans (hb.mono hB.size)
  dsimp only [ext, Option.getD] at hF
  repeat with_reducible first | refine wp_seq ?_ | refine nThen ?_ | refine nBlk ?_ | refine wp_skip ?_ | refine wp_block ?_ | refine wp_exit ?_ | refine xThen ?_ | refine xHere ?_ | refine xFar (by decide) ?_ | refine wp_ret ?_ | refine rThen ?_ | refine rBlk ?_
  obtain ⟨u, ⟨S, hseg, hS⟩, hF⟩ := hF.open (s := 3) rfl
  replace hS : ∀ y ∈ S, w.heap.size ≤ y := fun y hy => Nat.le_trans hBs (hS y hy)
  have hen : Enters Try.prog 65 := fun args w => by kernel_rfl
  have hec : Enters Try.prog 67 := fun args w => by kernel_rfl
  rcases hseg.cases with ⟨rfl, h0, h1, rfl⟩ | ⟨g, off, cap, rfl, rfl, hl⟩
  · have hD0 : D = [] := List.eq_nil_of_length_eq_zero h0
    subst hD0
    refine' region_ty 1 mixed (by kernel_rfl) hF ?_ ?_
    rotate_left
    · simp only [List.take_succ_cons, List.take_zero]
      repeat (first
          | exact Line.nil
          | (refine' Line.cons rfl (.no rfl rfl rfl rfl rfl rfl) ?_; rotate_left)
          | ((first | refine' Line.cons rfl (.run rfl rfl ?_) ?_ | refine' Line.cons rfl (.yes rfl rfl rfl rfl ?_) ?_)
             any_goals (first | exact cMove rfl rfl | exact cAssign rfl rfl | exact cPickT rfl rfl rfl | exact cPickF rfl rfl rfl | exact cNot rfl rfl | exact cLss rfl rfl rfl | exact cLeq rfl rfl rfl | exact cGtr rfl rfl rfl | exact cGeq rfl rfl rfl | exact cEql rfl rfl rfl | exact cNeq rfl rfl rfl | exact cExtract rfl rfl rfl)
             rotate_left))
    intro a w3 hF hb hN
    have hBs := hB.size
    replace hB := hB.trans (hb.mono hB.size)
    simp only [List.take_succ_cons, List.take_zero, List.drop_succ_cons, List.drop_zero] at hF hN ⊢
    dsimp only [ext, Option.getD] at hF
    refine tlCall rfl rfl rfl (args := #[.slice none 0 0, .func (.func 66) #[] #[]]) ?_ hen (sort_none w3) ?_
    · simp only [List.map_toArray, List.map_cons, List.map_nil, hF.getEx (s := 6) rfl]
      rfl
    rintro z w4 rfl
    have hF := (hF.keep [3]).put (d := 7) (by decide) (Below.refl _ _) (V := Ty.ex z) rfl
    refine wpList_nil ?_
    repeat with_reducible first | refine wp_seq ?_ | refine nThen ?_ | refine nBlk ?_ | refine wp_skip ?_ | refine wp_block ?_ | refine wp_exit ?_ | refine xThen ?_ | refine xHere ?_ | refine xFar (by decide) ?_ | refine wp_ret ?_ | refine rThen ?_ | refine rBlk ?_
    refine' reg_all hF ?_ mixed (by kernel_rfl) ?_
    rotate_left
    · repeat (first
          | exact Line.nil
          | (refine' Line.cons rfl (.no rfl rfl rfl rfl rfl rfl) ?_; rotate_left)
          | ((first | refine' Line.cons rfl (.run rfl rfl ?_) ?_ | refine' Line.cons rfl (.yes rfl rfl rfl rfl ?_) ?_)
             any_goals (first | exact cCallW1 rfl rfl hec (fun W x hb hx => by have hx : x = .slice none 0 0 := hx; subst hx; exact (compact_none W).mono fun _ _ ⟨a, b⟩ => ⟨_, a, rfl, b⟩) (ρ := Ty.ex (.slice none 0 0)) | exact cMove rfl rfl | exact cAssign rfl rfl | exact cPickT rfl rfl rfl | exact cPickF rfl rfl rfl | exact cNot rfl rfl | exact cLss rfl rfl rfl | exact cLeq rfl rfl rfl | exact cGtr rfl rfl rfl | exact cGeq rfl rfl rfl | exact cEql rfl rfl rfl | exact cNeq rfl rfl rfl | exact cExtract rfl rfl rfl)
             rotate_left))
    intro a w5 hF hb hN
    have hBs := hB.size
    replace hB := hB.trans (hb.mono hB.size)
    dsimp only [ext, Option.getD] at hF
    repeat with_reducible first | refine wp_seq ?_ | refine nThen ?_ | refine nBlk ?_ | refine wp_skip ?_ | refine wp_block ?_ | refine wp_exit ?_ | refine xThen ?_ | refine xHere ?_ | refine xFar (by decide) ?_ | refine wp_ret ?_ | refine rThen ?_ | refine rBlk ?_
    refine ret1 hF rfl rfl fun z hz => ?_
    have hz : z = .slice none 0 0 := hz
    subst hz
    exact ⟨_, rfl, ⟨[], Seg.nil _ _ _, by simp⟩, hB⟩
  · have hg : w.heap.size ≤ g := hS g (by simp)
    refine' region_ty 1 mixed (by kernel_rfl) hF ?_ ?_
    rotate_left
    · simp only [List.take_succ_cons, List.take_zero]
      repeat (first
          | exact Line.nil
          | (refine' Line.cons rfl (.no rfl rfl rfl rfl rfl rfl) ?_; rotate_left)
          | ((first | refine' Line.cons rfl (.run rfl rfl ?_) ?_ | refine' Line.cons rfl (.yes rfl rfl rfl rfl ?_) ?_)
             any_goals (first | exact cMove rfl rfl | exact cAssign rfl rfl | exact cPickT rfl rfl rfl | exact cPickF rfl rfl rfl | exact cNot rfl rfl | exact cLss rfl rfl rfl | exact cLeq rfl rfl rfl | exact cGtr rfl rfl rfl | exact cGeq rfl rfl rfl | exact cEql rfl rfl rfl | exact cNeq rfl rfl rfl | exact cExtract rfl rfl rfl)
             rotate_left))
    intro a w3 hF hb hN
    have hBs := hB.size
    replace hB := hB.trans (hb.mono hB.size)
    simp only [List.take_succ_cons, List.take_zero, List.drop_succ_cons, List.drop_zero] at hF hN ⊢
    dsimp only [ext, Option.getD] at hF
    refine tlCall rfl rfl rfl (args := #[.slice (some ⟨g, off, none⟩) D.length cap, .func (.func 66) #[] #[]]) ?_ hen (sort_any D w3 g off cap (hl.below hb) hD) ?_
    · simp only [List.map_toArray, List.map_cons, List.map_nil, hF.getEx (s := 6) rfl]
      rfl
    rintro z w4 ⟨hl4, hk4⟩
    have hF := ((hF.keep [3]).free1 hk4 (hl.below hb) rfl).put (d := 7) (by decide) (Below.refl _ _) (V := Ty.ex z) rfl
    replace hB := below_own hB hk4 (by simpa using hg)
    refine wpList_nil ?_
    repeat with_reducible first | refine wp_seq ?_ | refine nThen ?_ | refine nBlk ?_ | refine wp_skip ?_ | refine wp_block ?_ | refine wp_exit ?_ | refine xThen ?_ | refine xHere ?_ | refine xFar (by decide) ?_ | refine wp_ret ?_ | refine rThen ?_ | refine rBlk ?_
    have hsl := sortL_len D
    refine' region_ty 1 mixed (by kernel_rfl) hF ?_ ?_
    rotate_left
    · simp only [List.take_succ_cons, List.take_zero]
      repeat (first
          | exact Line.nil
          | (refine' Line.cons rfl (.no rfl rfl rfl rfl rfl rfl) ?_; rotate_left)
          | ((first | refine' Line.cons rfl (.run rfl rfl ?_) ?_ | refine' Line.cons rfl (.yes rfl rfl rfl rfl ?_) ?_)
             any_goals (first | exact cMove rfl rfl | exact cAssign rfl rfl | exact cPickT rfl rfl rfl | exact cPickF rfl rfl rfl | exact cNot rfl rfl | exact cLss rfl rfl rfl | exact cLeq rfl rfl rfl | exact cGtr rfl rfl rfl | exact cGeq rfl rfl rfl | exact cEql rfl rfl rfl | exact cNeq rfl rfl rfl | exact cExtract rfl rfl rfl)
             rotate_left))
    intro a w5 hF hb hN
    have hBs := hB.size
    replace hB := hB.trans (hb.mono hB.size)
    simp only [List.take_succ_cons, List.take_zero, List.drop_succ_cons, List.drop_zero] at hF hN ⊢
    dsimp only [ext, Option.getD] at hF
    refine tlCall rfl rfl rfl (args := #[.slice (some ⟨g, off, none⟩) D.length cap]) ?_ hec (R := fun u w' => u = .slice (some ⟨g, off, none⟩) (setL D).length cap ∧ SegL w' 34 32 g off (setL D).length cap (flat (setL D)) ∧ Keeps [g] w5 w') ?_ ?_
    · simp only [List.map_toArray, List.map_cons, List.map_nil, hF.getEx (s := 8) rfl]
    · have h := compact_any (sortL D) w5 g off cap (by rw [hsl]; exact hl4.below hb) (by omega)
      rw [hsl] at h
      refine h.mono fun e w' ⟨k, h1, h2, h3, h4⟩ => ?_
      subst h2
      exact ⟨_, h1, rfl, h3, h4⟩
    rintro z w6 ⟨rfl, hl6, hk6⟩
    have hF := ((hF.keep []).free1 hk6 (hl4.below hb) rfl).put (d := 9) (by decide) (Below.refl _ _) (V := Ty.ex (.slice (some ⟨g, off, none⟩) (setL D).length cap)) rfl
    replace hB := below_own hB hk6 (by simpa using hg)
    refine' tlOp hF rfl rfl rfl ?_ ?_
    rotate_left
    · first | exact cMove rfl rfl | exact cAssign rfl rfl | exact cPickT rfl rfl rfl | exact cPickF rfl rfl rfl | exact cNot rfl rfl | exact cLss rfl rfl rfl | exact cLeq rfl rfl rfl | exact cGtr rfl rfl rfl | exact cGeq rfl rfl rfl | exact cEql rfl rfl rfl | exact cNeq rfl rfl rfl | exact cExtract rfl rfl rfl
    intro a w7 hF hb
    have hBs := hB.size
    replace hB := hB.trans (hb.mono hB.size)
    try (refine wpList_nil ?_)
    repeat with_reducible first | refine wp_seq ?_ | refine nThen ?_ | refine nBlk ?_ | refine wp_skip ?_ | refine wp_block ?_ | refine wp_exit ?_ | refine xThen ?_ | refine xHere ?_ | refine xFar (by decide) ?_ | refine wp_ret ?_ | refine rThen ?_ | refine rBlk ?_
    refine ret1 hF rfl rfl fun z hz => ?_
    have hz : z = .slice (some ⟨g, off, none⟩) (setL D).length cap := hz
    subst hz
    exact ⟨_, rfl, ⟨[g], (hl6.below hb).seg, by simpa using hg⟩, hB⟩
end Go.Proofs.Ytmlbkcpmgcjblaa

/- Layer 10, plainly: a set's row is strictly rising, holds the same. -/
namespace Go.Proofs.Ytmlbkcpmgcjblaa
open Go.RowKit

def srt (L : List Sm) : Prop := L.Pairwise fun x y => cmpL x.l y.l < 0
theorem Sm.ext' {x y : Sm} (h : x.l = y.l) : x = y := by
  cases x; cases y; simp only at h; subst h; rfl
theorem cmp_self (x : Sm) : cmpL x.l x.l = 0 := (cmpL_eq _ _).2 rfl
theorem cmp_zero {x y : Sm} : cmpL x.l y.l = 0 ↔ x = y := ⟨fun h => Sm.ext' ((cmpL_eq _ _).1 h), fun h => by rw [h]; exact cmp_self y⟩
theorem cmp_lt_trans {x y z : Sm} (h1 : cmpL x.l y.l ≤ 0) (h2 : cmpL y.l z.l ≤ 0) (h : cmpL x.l y.l < 0 ∨ cmpL y.l z.l < 0) : cmpL x.l z.l < 0 := (cmpL_trans _ _ _ h1 h2).2 h
theorem sortL_le (D : List Sm) : (sortL D).Pairwise fun x y => cmpL x.l y.l ≤ 0 := by
  have h := List.pairwise_mergeSort (le := fun x y : Sm => !ltS y x) (fun a b c h1 h2 => by
    simp only [ltS, Bool.not_eq_true', decide_eq_false_iff_not] at *
    have s1 := cmpL_swap a.l b.l
    have s2 := cmpL_swap b.l c.l
    have s3 := cmpL_swap a.l c.l
    have := (cmpL_trans a.l b.l c.l (by omega) (by omega)).1
    omega) (fun a b => by
    simp only [ltS, Bool.or_eq_true, Bool.not_eq_true', decide_eq_false_iff_not] at *
    have s1 := cmpL_swap a.l b.l
    omega) D
  refine List.Pairwise.imp ?_ h
  intro x y h
  simp only [ltS, Bool.not_eq_true', decide_eq_false_iff_not] at h
  have s1 := cmpL_swap x.l y.l
  omega
theorem sortL_mem (D : List Sm) (x : Sm) : x ∈ sortL D ↔ x ∈ D := (List.mergeSort_perm D _).mem_iff
theorem le_get {D : List Sm} (h : D.Pairwise fun x y => cmpL x.l y.l ≤ 0) {i j : Nat} (hij : i < j) (hj : j < D.length) : cmpL (D.getD i default).l (D.getD j default).l ≤ 0 := by
  have h1 := List.pairwise_iff_getElem.1 h i j (by omega) hj hij
  simpa [List.getD, hj, show i < D.length by omega] using h1
theorem lt_get {D : List Sm} (h : srt D) {i j : Nat} (hij : i < j) (hj : j < D.length) : cmpL (D.getD i default).l (D.getD j default).l < 0 := by
  have h1 := List.pairwise_iff_getElem.1 h i j (by omega) hj hij
  simpa [List.getD, hj, show i < D.length by omega] using h1
theorem ddL_facts {D : List Sm} (h : D.Pairwise fun x y => cmpL x.l y.l ≤ 0) : ∀ m, m ≤ D.length → srt (ddL D m) ∧ ∀ x, x ∈ ddL D m ↔ ∃ j, j < m ∧ D.getD j default = x
  | 0, _ => ⟨List.Pairwise.nil, fun x => by simp [ddL]⟩
  | m + 1, hm => by
    obtain ⟨h1, h2⟩ := ddL_facts h m (by omega)
    by_cases hn : m = 0 ∨ ¬ D.getD m default = D.getD (m - 1) default
    · rw [ddL_new hn]
      constructor
      · refine List.pairwise_append.2 ⟨h1, List.pairwise_singleton _ _, fun x hx y hy => ?_⟩
        obtain ⟨j, hj, rfl⟩ := (h2 x).1 hx
        simp only [List.mem_singleton] at hy
        subst hy
        have hn : ¬ D.getD m default = D.getD (m - 1) default := hn.resolve_left (by omega)
        have a1 := le_get h (i := m - 1) (j := m) (by omega) (by omega)
        have a2 : ¬ cmpL (D.getD (m - 1) default).l (D.getD m default).l = 0 := fun e => hn (cmp_zero.1 e).symm
        by_cases hjm : j = m - 1
        · subst hjm; omega
        · exact cmp_lt_trans (le_get h (i := j) (j := m - 1) (by omega) (by omega)) a1 (.inr (by omega))
      · intro x
        rw [List.mem_append, h2, List.mem_singleton]
        constructor
        · rintro (⟨j, hj, rfl⟩ | rfl)
          · exact ⟨j, by omega, rfl⟩
          · exact ⟨m, by omega, rfl⟩
        · rintro ⟨j, hj, rfl⟩
          by_cases hjm : j = m
          · subst hjm; exact .inr rfl
          · exact .inl ⟨j, by omega, rfl⟩
    · have hn' : ¬ m = 0 ∧ D.getD m default = D.getD (m - 1) default := by
        refine ⟨fun e => hn (.inl e), Classical.byContradiction fun e => hn (.inr e)⟩
      rw [ddL_old hn'.1 hn'.2]
      refine ⟨h1, fun x => ?_⟩
      rw [h2]
      constructor
      · rintro ⟨j, hj, rfl⟩
        exact ⟨j, by omega, rfl⟩
      · rintro ⟨j, hj, rfl⟩
        by_cases hjm : j = m
        · subst hjm; exact ⟨j - 1, by omega, hn'.2.symm⟩
        · exact ⟨j, by omega, rfl⟩
theorem setL_srt (D : List Sm) : srt (setL D) := by
  have h := (ddL_facts (sortL_le D) D.length (by rw [sortL_len]; exact Nat.le_refl _)).1
  exact h
theorem setL_mem (D : List Sm) (x : Sm) : x ∈ setL D ↔ x ∈ D := by
  have h := (ddL_facts (sortL_le D) D.length (by rw [sortL_len]; exact Nat.le_refl _)).2 x
  refine h.trans ?_
  rw [← sortL_mem D x, mem_get, sortL_len]
theorem srt_nodup {L : List Sm} (h : srt L) : L.Nodup := List.Pairwise.imp (fun {a b} h e => by subst e; rw [cmp_self] at h; omega) h
theorem srt_ext : ∀ {L M : List Sm}, srt L → srt M → (∀ x, x ∈ L ↔ x ∈ M) → L = M
  | [], [], _, _, _ => rfl
  | [], y :: M, _, _, h => absurd ((h y).2 (by simp)) (by simp)
  | x :: L, [], _, _, h => absurd ((h x).1 (by simp)) (by simp)
  | x :: L, y :: M, hL, hM, h => by
    obtain ⟨a1, a2⟩ := List.pairwise_cons.1 hL
    obtain ⟨b1, b2⟩ := List.pairwise_cons.1 hM
    have hxy : x = y := by
      rcases List.mem_cons.1 ((h x).1 (by simp)) with e | e
      · exact e
      rcases List.mem_cons.1 ((h y).2 (by simp)) with e' | e'
      · exact e'.symm
      have c1 := b1 x e
      have c2 := a1 y e'
      have := cmpL_swap x.l y.l
      omega
    subst hxy
    congr 1
    refine srt_ext a2 b2 fun z => ?_
    have hz := h z
    simp only [List.mem_cons] at hz
    constructor
    · intro hz1
      rcases hz.1 (.inr hz1) with e | e
      · subst e; have := a1 z hz1; rw [cmp_self] at this; omega
      · exact e
    · intro hz1
      rcases hz.2 (.inr hz1) with e | e
      · subst e; have := b1 z hz1; rw [cmp_self] at this; omega
      · exact e
theorem goodL_srt {L : List Sm} (h : srt L) : goodL L = decide (L.length ≤ 512) := goodL_all fun k hk => lt_get h (by omega) hk
theorem setL_self {L : List Sm} (h : srt L) : setL L = L := srt_ext (setL_srt L) h (setL_mem L)
theorem srt_filter {L : List Sm} (h : srt L) (p : Sm → Bool) : srt (L.filter p) := List.Pairwise.filter p h
end Go.Proofs.Ytmlbkcpmgcjblaa

/- Layer 14 by types: ints, awake. -/
namespace Go.Proofs.Ytmlbkcpmgcjblaa
open Go.RowKit

theorem ivn_drop {L : List Nat} {k : Nat} (h : k < L.length) : (L.map ivn).drop k = ivn (L.getD k 0) :: (L.map ivn).drop (k + 1) := by
  have h1 : k < (L.map ivn).length := by rw [List.length_map]; exact h
  rw [List.drop_eq_getElem_cons h1]
  congr 1
  rw [List.getElem_map]
  simp [List.getD, List.getElem?_eq_getElem h]
theorem sizeI : (Try.prog.info? 3).map (·.size) = some 1 := by kernel_rfl
end Go.Proofs.Ytmlbkcpmgcjblaa
