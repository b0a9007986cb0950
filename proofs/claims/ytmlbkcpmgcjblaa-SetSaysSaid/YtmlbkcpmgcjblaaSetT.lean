/- Layer 10: the walk of SetSays. -/
import Derived.Test.YtmlbkcpmgcjblaaSetS
import Derived.Test.YtmlbkcpmgcjblaaOwnS
import Derived.Test.YtmlbkcpmgcjblaaSetL
namespace Go.Proofs.Ytmlbkcpmgcjblaa
open Go.RowKit

theorem eqlRS (x y : Sm) (w : World) : (binOp .eql 61 (.agg (u8s x.l)) (.agg (u8s y.l))).run Try.prog w = .ok (.bool (decide (x = y))) w := eqlR x y w
theorem cEqlBool {P : Program} {w0 : World} {Γ : Ctx} {o : Oper} {t t2 : TypeId} {x y : Operand} {b c : Bool} (ho : o.op = .binOp .eql t x y t2) (hx : OpT Γ x (Ty.ex (.bool b))) (hy : OpT Γ y (Ty.ex (.bool c))) (h : P.underlying t = some .bool) : OpOk P w0 Γ o (Ty.ex (.bool (b == c))) :=
  cBin ho hx hy fun w => by simp [eqGuard, binOp, run_equal_bool w t b c h]
set_option linter.unusedSimpArgs false in
set_option maxRecDepth 100000 in
set_option maxHeartbeats 8000000 in
theorem lawSetSays_any (L0 L1 : List Sm) (x : Sm) {W : World} {v0 v1 : Value} (h0 : (Ty.sumsR L0).p W v0) (h1 : (Ty.sumsR L1).p W v1) : Calls Try.prog 10 #[v0, v1, .agg (u8s x.l)] W fun e w' => e = .returned (.bool true) ∧ Below W.heap.size W w' := by
  by_cases hl0 : L0.length ≤ 120
  rotate_left
  · refine enter_ty 138 [Ty.ex v0, Ty.ex v1, Ty.ex (.agg (u8s x.l))] Try.func10 rfl (by kernel_rfl) ⟨rfl, rfl, rfl, trivial⟩ fun a hF => ?_
    have hB := Below.refl W.heap.size W
    repeat (first | with_reducible refine wp_seq ?_ | with_reducible refine nThen ?_ | with_reducible refine nBlk ?_ | with_reducible refine wp_skip ?_ | with_reducible refine wp_block ?_ | with_reducible refine wp_exit ?_ | with_reducible refine xThen ?_ | with_reducible refine xHere ?_ | with_reducible refine xFar (by decide) ?_ | with_reducible refine wp_ret ?_ | with_reducible refine rThen ?_ | with_reducible refine rBlk ?_)
    refine' reg_all hF ?_ mixed (by kernel_rfl) ?_
    rotate_left
    · repeat (first
          | exact Line.nil
          | (refine' Line.cons rfl (.no rfl rfl rfl rfl rfl rfl) ?_; rotate_left)
          | ((first | refine' Line.cons rfl (.run rfl rfl ?_) ?_ | refine' Line.cons rfl (.yes rfl rfl rfl rfl ?_) ?_)
             any_goals (first | exact cMove rfl rfl | exact cAssign rfl rfl | exact cNot rfl rfl | exact cBoxSum rfl rfl | exact cPickT rfl rfl rfl | exact cPickF rfl rfl rfl | exact cLss rfl rfl rfl | exact cLeq rfl rfl rfl | exact cGtr rfl rfl rfl | exact cGeq rfl rfl rfl | exact cEql rfl rfl rfl | exact cNeq rfl rfl rfl | exact cExtract rfl rfl rfl)
             rotate_left))
    intro a w1 hF hb hN
    have hBs := hB.size
    replace hB := hB.trans (hb.mono hB.size)
    dsimp only [ext, Option.getD] at hF
    repeat (first | with_reducible refine wp_seq ?_ | with_reducible refine nThen ?_ | with_reducible refine nBlk ?_ | with_reducible refine wp_skip ?_ | with_reducible refine wp_block ?_ | with_reducible refine wp_exit ?_ | with_reducible refine xThen ?_ | with_reducible refine xHere ?_ | with_reducible refine xFar (by decide) ?_ | with_reducible refine wp_ret ?_ | with_reducible refine rThen ?_ | with_reducible refine rBlk ?_)
    refine' reg_all hF ?_ mixed (by kernel_rfl) ?_
    rotate_left
    · repeat (first
          | exact Line.nil
          | (refine' Line.cons rfl (.no rfl rfl rfl rfl rfl rfl) ?_; rotate_left)
          | ((first | refine' Line.cons rfl (.run rfl rfl ?_) ?_ | refine' Line.cons rfl (.yes rfl rfl rfl rfl ?_) ?_)
             any_goals (first | exact cMove rfl rfl | exact cAssign rfl rfl | exact cNot rfl rfl | exact cCall0 rfl awake10_ty | exact cPickT rfl rfl rfl | exact cPickF rfl rfl rfl | exact cLss rfl rfl rfl | exact cLeq rfl rfl rfl | exact cGtr rfl rfl rfl | exact cGeq rfl rfl rfl | exact cEql rfl rfl rfl | exact cNeq rfl rfl rfl | exact cExtract rfl rfl rfl)
             rotate_left))
    intro a w2 hF hb hN
    have hBs := hB.size
    replace hB := hB.trans (hb.mono hB.size)
    dsimp only [ext, Option.getD] at hF
    repeat (first | with_reducible refine wp_seq ?_ | with_reducible refine nThen ?_ | with_reducible refine nBlk ?_ | with_reducible refine wp_skip ?_ | with_reducible refine wp_block ?_ | with_reducible refine wp_exit ?_ | with_reducible refine xThen ?_ | with_reducible refine xHere ?_ | with_reducible refine xFar (by decide) ?_ | with_reducible refine wp_ret ?_ | with_reducible refine rThen ?_ | with_reducible refine rBlk ?_)
    refine cond_f hF rfl ?_
    repeat (first | with_reducible refine wp_seq ?_ | with_reducible refine nThen ?_ | with_reducible refine nBlk ?_ | with_reducible refine wp_skip ?_ | with_reducible refine wp_block ?_ | with_reducible refine wp_exit ?_ | with_reducible refine xThen ?_ | with_reducible refine xHere ?_ | with_reducible refine xFar (by decide) ?_ | with_reducible refine wp_ret ?_ | with_reducible refine rThen ?_ | with_reducible refine rBlk ?_)
    have h02 := (Ty.sumsR L0).below h0 hB
    refine' reg_all hF ?_ mixed (by kernel_rfl) ?_
    rotate_left
    · repeat (first
          | exact Line.nil
          | (refine' Line.cons rfl (.no rfl rfl rfl rfl rfl rfl) ?_; rotate_left)
          | ((first | refine' Line.cons rfl (.run rfl rfl ?_) ?_ | refine' Line.cons rfl (.yes rfl rfl rfl rfl ?_) ?_)
             any_goals (first | exact cMove rfl rfl | exact cAssign rfl rfl | exact cNot rfl rfl | exact cLenH rfl (.l rfl h02) (Ty.rd_isSl _ _) Try.underlying22 | exact OpOk.b (c := true) (cGtr rfl rfl rfl) (decide_eq_true (by omega)) | exact cPickT rfl rfl rfl | exact cPickF rfl rfl rfl | exact cLss rfl rfl rfl | exact cLeq rfl rfl rfl | exact cGtr rfl rfl rfl | exact cGeq rfl rfl rfl | exact cEql rfl rfl rfl | exact cNeq rfl rfl rfl | exact cExtract rfl rfl rfl)
             rotate_left))
    intro a w3 hF hb hN
    have hBs := hB.size
    replace hB := hB.trans (hb.mono hB.size)
    dsimp only [ext, Option.getD] at hF
    repeat (first | with_reducible refine wp_seq ?_ | with_reducible refine nThen ?_ | with_reducible refine nBlk ?_ | with_reducible refine wp_skip ?_ | with_reducible refine wp_block ?_ | with_reducible refine wp_exit ?_ | with_reducible refine xThen ?_ | with_reducible refine xHere ?_ | with_reducible refine xFar (by decide) ?_ | with_reducible refine wp_ret ?_ | with_reducible refine rThen ?_ | with_reducible refine rBlk ?_)
    refine cond_t hF rfl ?_
    repeat (first | with_reducible refine wp_seq ?_ | with_reducible refine nThen ?_ | with_reducible refine nBlk ?_ | with_reducible refine wp_skip ?_ | with_reducible refine wp_block ?_ | with_reducible refine wp_exit ?_ | with_reducible refine xThen ?_ | with_reducible refine xHere ?_ | with_reducible refine xFar (by decide) ?_ | with_reducible refine wp_ret ?_ | with_reducible refine rThen ?_ | with_reducible refine rBlk ?_)
    refine' reg_all hF ?_ mixed (by kernel_rfl) ?_
    rotate_left
    · repeat (first
          | exact Line.nil
          | (refine' Line.cons rfl (.no rfl rfl rfl rfl rfl rfl) ?_; rotate_left)
          | ((first | refine' Line.cons rfl (.run rfl rfl ?_) ?_ | refine' Line.cons rfl (.yes rfl rfl rfl rfl ?_) ?_)
             any_goals (first | exact cMove rfl rfl | exact cAssign rfl rfl | exact cNot rfl rfl | exact cPickT rfl rfl rfl | exact cPickF rfl rfl rfl | exact cLss rfl rfl rfl | exact cLeq rfl rfl rfl | exact cGtr rfl rfl rfl | exact cGeq rfl rfl rfl | exact cEql rfl rfl rfl | exact cNeq rfl rfl rfl | exact cExtract rfl rfl rfl)
             rotate_left))
    intro a w4 hF hb hN
    have hBs := hB.size
    replace hB := hB.trans (hb.mono hB.size)
    dsimp only [ext, Option.getD] at hF
    repeat (first | with_reducible refine wp_seq ?_ | with_reducible refine nThen ?_ | with_reducible refine nBlk ?_ | with_reducible refine wp_skip ?_ | with_reducible refine wp_block ?_ | with_reducible refine wp_exit ?_ | with_reducible refine xThen ?_ | with_reducible refine xHere ?_ | with_reducible refine xFar (by decide) ?_ | with_reducible refine wp_ret ?_ | with_reducible refine rThen ?_ | with_reducible refine rBlk ?_)
    refine ret1 hF rfl rfl fun z hz => ?_
    exact ⟨by rw [show z = .bool true from hz], hB⟩
  by_cases hl1 : L1.length ≤ 120
  rotate_left
  · refine enter_ty 138 [Ty.ex v0, Ty.ex v1, Ty.ex (.agg (u8s x.l))] Try.func10 rfl (by kernel_rfl) ⟨rfl, rfl, rfl, trivial⟩ fun a hF => ?_
    have hB := Below.refl W.heap.size W
    repeat (first | with_reducible refine wp_seq ?_ | with_reducible refine nThen ?_ | with_reducible refine nBlk ?_ | with_reducible refine wp_skip ?_ | with_reducible refine wp_block ?_ | with_reducible refine wp_exit ?_ | with_reducible refine xThen ?_ | with_reducible refine xHere ?_ | with_reducible refine xFar (by decide) ?_ | with_reducible refine wp_ret ?_ | with_reducible refine rThen ?_ | with_reducible refine rBlk ?_)
    refine' reg_all hF ?_ mixed (by kernel_rfl) ?_
    rotate_left
    · repeat (first
          | exact Line.nil
          | (refine' Line.cons rfl (.no rfl rfl rfl rfl rfl rfl) ?_; rotate_left)
          | ((first | refine' Line.cons rfl (.run rfl rfl ?_) ?_ | refine' Line.cons rfl (.yes rfl rfl rfl rfl ?_) ?_)
             any_goals (first | exact cMove rfl rfl | exact cAssign rfl rfl | exact cNot rfl rfl | exact cBoxSum rfl rfl | exact cPickT rfl rfl rfl | exact cPickF rfl rfl rfl | exact cLss rfl rfl rfl | exact cLeq rfl rfl rfl | exact cGtr rfl rfl rfl | exact cGeq rfl rfl rfl | exact cEql rfl rfl rfl | exact cNeq rfl rfl rfl | exact cExtract rfl rfl rfl)
             rotate_left))
    intro a w1 hF hb hN
    have hBs := hB.size
    replace hB := hB.trans (hb.mono hB.size)
    dsimp only [ext, Option.getD] at hF
    repeat (first | with_reducible refine wp_seq ?_ | with_reducible refine nThen ?_ | with_reducible refine nBlk ?_ | with_reducible refine wp_skip ?_ | with_reducible refine wp_block ?_ | with_reducible refine wp_exit ?_ | with_reducible refine xThen ?_ | with_reducible refine xHere ?_ | with_reducible refine xFar (by decide) ?_ | with_reducible refine wp_ret ?_ | with_reducible refine rThen ?_ | with_reducible refine rBlk ?_)
    refine' reg_all hF ?_ mixed (by kernel_rfl) ?_
    rotate_left
    · repeat (first
          | exact Line.nil
          | (refine' Line.cons rfl (.no rfl rfl rfl rfl rfl rfl) ?_; rotate_left)
          | ((first | refine' Line.cons rfl (.run rfl rfl ?_) ?_ | refine' Line.cons rfl (.yes rfl rfl rfl rfl ?_) ?_)
             any_goals (first | exact cMove rfl rfl | exact cAssign rfl rfl | exact cNot rfl rfl | exact cCall0 rfl awake10_ty | exact cPickT rfl rfl rfl | exact cPickF rfl rfl rfl | exact cLss rfl rfl rfl | exact cLeq rfl rfl rfl | exact cGtr rfl rfl rfl | exact cGeq rfl rfl rfl | exact cEql rfl rfl rfl | exact cNeq rfl rfl rfl | exact cExtract rfl rfl rfl)
             rotate_left))
    intro a w2 hF hb hN
    have hBs := hB.size
    replace hB := hB.trans (hb.mono hB.size)
    dsimp only [ext, Option.getD] at hF
    repeat (first | with_reducible refine wp_seq ?_ | with_reducible refine nThen ?_ | with_reducible refine nBlk ?_ | with_reducible refine wp_skip ?_ | with_reducible refine wp_block ?_ | with_reducible refine wp_exit ?_ | with_reducible refine xThen ?_ | with_reducible refine xHere ?_ | with_reducible refine xFar (by decide) ?_ | with_reducible refine wp_ret ?_ | with_reducible refine rThen ?_ | with_reducible refine rBlk ?_)
    refine cond_f hF rfl ?_
    repeat (first | with_reducible refine wp_seq ?_ | with_reducible refine nThen ?_ | with_reducible refine nBlk ?_ | with_reducible refine wp_skip ?_ | with_reducible refine wp_block ?_ | with_reducible refine wp_exit ?_ | with_reducible refine xThen ?_ | with_reducible refine xHere ?_ | with_reducible refine xFar (by decide) ?_ | with_reducible refine wp_ret ?_ | with_reducible refine rThen ?_ | with_reducible refine rBlk ?_)
    have h02 := (Ty.sumsR L0).below h0 hB
    have h12 := (Ty.sumsR L1).below h1 hB
    have e0 : decide ((120 : Int) < (L0.length : Int)) = false := decide_eq_false (by omega)
    have e1 : decide ((120 : Int) < (L1.length : Int)) = true := decide_eq_true (by omega)
    refine' reg_all hF ?_ mixed (by kernel_rfl) ?_
    rotate_left
    · repeat (first
          | exact Line.nil
          | (refine' Line.cons rfl (.no rfl rfl rfl rfl rfl rfl) ?_; rotate_left)
          | ((first | refine' Line.cons rfl (.run rfl rfl ?_) ?_ | refine' Line.cons rfl (.yes rfl rfl rfl rfl ?_) ?_)
             any_goals (first | exact cMove rfl rfl | exact cAssign rfl rfl | exact cNot rfl rfl | exact cLenH rfl (.l rfl h02) (Ty.rd_isSl _ _) Try.underlying22 | exact cLenH rfl (.l rfl h12) (Ty.rd_isSl _ _) Try.underlying22 | exact OpOk.b (cGtr rfl rfl rfl) e0 | exact OpOk.b (cGtr rfl rfl rfl) e1 | exact cPickT rfl rfl rfl | exact cPickF rfl rfl rfl | exact cLss rfl rfl rfl | exact cLeq rfl rfl rfl | exact cGtr rfl rfl rfl | exact cGeq rfl rfl rfl | exact cEql rfl rfl rfl | exact cNeq rfl rfl rfl | exact cExtract rfl rfl rfl)
             rotate_left))
    intro a w3 hF hb hN
    have hBs := hB.size
    replace hB := hB.trans (hb.mono hB.size)
    dsimp only [ext, Option.getD] at hF
    repeat (first | with_reducible refine wp_seq ?_ | with_reducible refine nThen ?_ | with_reducible refine nBlk ?_ | with_reducible refine wp_skip ?_ | with_reducible refine wp_block ?_ | with_reducible refine wp_exit ?_ | with_reducible refine xThen ?_ | with_reducible refine xHere ?_ | with_reducible refine xFar (by decide) ?_ | with_reducible refine wp_ret ?_ | with_reducible refine rThen ?_ | with_reducible refine rBlk ?_)
    refine cond_t hF rfl ?_
    repeat (first | with_reducible refine wp_seq ?_ | with_reducible refine nThen ?_ | with_reducible refine nBlk ?_ | with_reducible refine wp_skip ?_ | with_reducible refine wp_block ?_ | with_reducible refine wp_exit ?_ | with_reducible refine xThen ?_ | with_reducible refine xHere ?_ | with_reducible refine xFar (by decide) ?_ | with_reducible refine wp_ret ?_ | with_reducible refine rThen ?_ | with_reducible refine rBlk ?_)
    refine' reg_all hF ?_ mixed (by kernel_rfl) ?_
    rotate_left
    · repeat (first
          | exact Line.nil
          | (refine' Line.cons rfl (.no rfl rfl rfl rfl rfl rfl) ?_; rotate_left)
          | ((first | refine' Line.cons rfl (.run rfl rfl ?_) ?_ | refine' Line.cons rfl (.yes rfl rfl rfl rfl ?_) ?_)
             any_goals (first | exact cMove rfl rfl | exact cAssign rfl rfl | exact cNot rfl rfl | exact cPickT rfl rfl rfl | exact cPickF rfl rfl rfl | exact cLss rfl rfl rfl | exact cLeq rfl rfl rfl | exact cGtr rfl rfl rfl | exact cGeq rfl rfl rfl | exact cEql rfl rfl rfl | exact cNeq rfl rfl rfl | exact cExtract rfl rfl rfl)
             rotate_left))
    intro a w4 hF hb hN
    have hBs := hB.size
    replace hB := hB.trans (hb.mono hB.size)
    dsimp only [ext, Option.getD] at hF
    repeat (first | with_reducible refine wp_seq ?_ | with_reducible refine nThen ?_ | with_reducible refine nBlk ?_ | with_reducible refine wp_skip ?_ | with_reducible refine wp_block ?_ | with_reducible refine wp_exit ?_ | with_reducible refine xThen ?_ | with_reducible refine xHere ?_ | with_reducible refine xFar (by decide) ?_ | with_reducible refine wp_ret ?_ | with_reducible refine rThen ?_ | with_reducible refine rBlk ?_)
    refine ret1 hF rfl rfl fun z hz => ?_
    exact ⟨by rw [show z = .bool true from hz], hB⟩
  have e0 : decide ((120 : Int) < (L0.length : Int)) = false := decide_eq_false (by omega)
  have e1 : decide ((120 : Int) < (L1.length : Int)) = false := decide_eq_false (by omega)
  refine enter_ty 138 [Ty.ex v0, Ty.ex v1, Ty.ex (.agg (u8s x.l))] Try.func10 rfl (by kernel_rfl) ⟨rfl, rfl, rfl, trivial⟩ fun a hF => ?_
  have hB := Below.refl W.heap.size W
  repeat (first | with_reducible refine wp_seq ?_ | with_reducible refine nThen ?_ | with_reducible refine nBlk ?_ | with_reducible refine wp_skip ?_ | with_reducible refine wp_block ?_ | with_reducible refine wp_exit ?_ | with_reducible refine xThen ?_ | with_reducible refine xHere ?_ | with_reducible refine xFar (by decide) ?_ | with_reducible refine wp_ret ?_ | with_reducible refine rThen ?_ | with_reducible refine rBlk ?_)
  refine' reg_all hF ?_ mixed (by kernel_rfl) ?_
  rotate_left
  · repeat (first
        | exact Line.nil
        | (refine' Line.cons rfl (.no rfl rfl rfl rfl rfl rfl) ?_; rotate_left)
        | ((first | refine' Line.cons rfl (.run rfl rfl ?_) ?_ | refine' Line.cons rfl (.yes rfl rfl rfl rfl ?_) ?_)
           any_goals (first | exact cMove rfl rfl | exact cAssign rfl rfl | exact cNot rfl rfl | exact cBoxSum rfl rfl | exact cPickT rfl rfl rfl | exact cPickF rfl rfl rfl | exact cLss rfl rfl rfl | exact cLeq rfl rfl rfl | exact cGtr rfl rfl rfl | exact cGeq rfl rfl rfl | exact cEql rfl rfl rfl | exact cNeq rfl rfl rfl | exact cExtract rfl rfl rfl)
           rotate_left))
  intro a w1 hF hb hN
  have hBs := hB.size
  replace hB := hB.trans (hb.mono hB.size)
  dsimp only [ext, Option.getD] at hF
  repeat (first | with_reducible refine wp_seq ?_ | with_reducible refine nThen ?_ | with_reducible refine nBlk ?_ | with_reducible refine wp_skip ?_ | with_reducible refine wp_block ?_ | with_reducible refine wp_exit ?_ | with_reducible refine xThen ?_ | with_reducible refine xHere ?_ | with_reducible refine xFar (by decide) ?_ | with_reducible refine wp_ret ?_ | with_reducible refine rThen ?_ | with_reducible refine rBlk ?_)
  refine' reg_all hF ?_ mixed (by kernel_rfl) ?_
  rotate_left
  · repeat (first
        | exact Line.nil
        | (refine' Line.cons rfl (.no rfl rfl rfl rfl rfl rfl) ?_; rotate_left)
        | ((first | refine' Line.cons rfl (.run rfl rfl ?_) ?_ | refine' Line.cons rfl (.yes rfl rfl rfl rfl ?_) ?_)
           any_goals (first | exact cMove rfl rfl | exact cAssign rfl rfl | exact cNot rfl rfl | exact cCall0 rfl awake10_ty | exact cPickT rfl rfl rfl | exact cPickF rfl rfl rfl | exact cLss rfl rfl rfl | exact cLeq rfl rfl rfl | exact cGtr rfl rfl rfl | exact cGeq rfl rfl rfl | exact cEql rfl rfl rfl | exact cNeq rfl rfl rfl | exact cExtract rfl rfl rfl)
           rotate_left))
  intro a w2 hF hb hN
  have hBs := hB.size
  replace hB := hB.trans (hb.mono hB.size)
  dsimp only [ext, Option.getD] at hF
  repeat (first | with_reducible refine wp_seq ?_ | with_reducible refine nThen ?_ | with_reducible refine nBlk ?_ | with_reducible refine wp_skip ?_ | with_reducible refine wp_block ?_ | with_reducible refine wp_exit ?_ | with_reducible refine xThen ?_ | with_reducible refine xHere ?_ | with_reducible refine xFar (by decide) ?_ | with_reducible refine wp_ret ?_ | with_reducible refine rThen ?_ | with_reducible refine rBlk ?_)
  refine cond_f hF rfl ?_
  repeat (first | with_reducible refine wp_seq ?_ | with_reducible refine nThen ?_ | with_reducible refine nBlk ?_ | with_reducible refine wp_skip ?_ | with_reducible refine wp_block ?_ | with_reducible refine wp_exit ?_ | with_reducible refine xThen ?_ | with_reducible refine xHere ?_ | with_reducible refine xFar (by decide) ?_ | with_reducible refine wp_ret ?_ | with_reducible refine rThen ?_ | with_reducible refine rBlk ?_)
  have h02 := (Ty.sumsR L0).below h0 hB
  have h12 := (Ty.sumsR L1).below h1 hB
  refine' reg_all hF ?_ mixed (by kernel_rfl) ?_
  rotate_left
  · repeat (first
        | exact Line.nil
        | (refine' Line.cons rfl (.no rfl rfl rfl rfl rfl rfl) ?_; rotate_left)
        | ((first | refine' Line.cons rfl (.run rfl rfl ?_) ?_ | refine' Line.cons rfl (.yes rfl rfl rfl rfl ?_) ?_)
           any_goals (first | exact cMove rfl rfl | exact cAssign rfl rfl | exact cNot rfl rfl | exact cLenH rfl (.l rfl h02) (Ty.rd_isSl _ _) Try.underlying22 | exact cLenH rfl (.l rfl h12) (Ty.rd_isSl _ _) Try.underlying22 | exact OpOk.b (cGtr rfl rfl rfl) e0 | exact OpOk.b (cGtr rfl rfl rfl) e1 | exact cPickT rfl rfl rfl | exact cPickF rfl rfl rfl | exact cLss rfl rfl rfl | exact cLeq rfl rfl rfl | exact cGtr rfl rfl rfl | exact cGeq rfl rfl rfl | exact cEql rfl rfl rfl | exact cNeq rfl rfl rfl | exact cExtract rfl rfl rfl)
           rotate_left))
  intro a w3 hF hb hN
  have hBs := hB.size
  replace hB := hB.trans (hb.mono hB.size)
  dsimp only [ext, Option.getD] at hF
  repeat (first | with_reducible refine wp_seq ?_ | with_reducible refine nThen ?_ | with_reducible refine nBlk ?_ | with_reducible refine wp_skip ?_ | with_reducible refine wp_block ?_ | with_reducible refine wp_exit ?_ | with_reducible refine xThen ?_ | with_reducible refine xHere ?_ | with_reducible refine xFar (by decide) ?_ | with_reducible refine wp_ret ?_ | with_reducible refine rThen ?_ | with_reducible refine rBlk ?_)
  refine cond_f hF rfl ?_
  repeat (first | with_reducible refine wp_seq ?_ | with_reducible refine nThen ?_ | with_reducible refine nBlk ?_ | with_reducible refine wp_skip ?_ | with_reducible refine wp_block ?_ | with_reducible refine wp_exit ?_ | with_reducible refine xThen ?_ | with_reducible refine xHere ?_ | with_reducible refine xFar (by decide) ?_ | with_reducible refine wp_ret ?_ | with_reducible refine rThen ?_ | with_reducible refine rBlk ?_)
  have h03 := (Ty.sumsR L0).below h0 hB
  have h13 := (Ty.sumsR L1).below h1 hB
  have hw3 := hB.size
  refine' region_own 8 [(6, 26), (7, 28)] mixed (by kernel_rfl) hF ?_ ?_
  rotate_left
  · simp only [List.take_succ_cons, List.take_zero]
    repeat (first
        | exact LineO.nil
        | (refine' LineO.cons rfl rfl (.no rfl rfl rfl rfl rfl) ?_; rotate_left)
        | ((first | refine' LineO.cons rfl rfl (.run rfl ?_) ?_ | refine' LineO.cons rfl rfl (.yes rfl rfl rfl ?_) ?_)
           any_goals (first | exact .ex (cMove rfl rfl) | exact .ex (cAssign rfl rfl) | exact .ex (cNot rfl rfl) | exact oCallS1 rfl (.l rfl h03) (row10_seg L0 (by omega)) | exact oCallS1 rfl (.l rfl h13) (row10_seg L1 (by omega)) | exact .ex (cLoadSum rfl (.t rfl) Try.underlying33 sizeA) | exact oAlloc rfl (run_alloc_i infoS) | exact .ex (cPickT rfl rfl rfl) | exact .ex (cPickF rfl rfl rfl) | exact .ex (cLss rfl rfl rfl) | exact .ex (cLeq rfl rfl rfl) | exact .ex (cGtr rfl rfl rfl) | exact .ex (cGeq rfl rfl rfl) | exact .ex (cEql rfl rfl rfl) | exact .ex (cNeq rfl rfl rfl) | exact .ex (cExtract rfl rfl rfl))
           rotate_left)
        | ((first | refine' LineO.take rfl rfl rfl (.run rfl ?_) ?_ | refine' LineO.take rfl rfl rfl (.yes rfl rfl rfl ?_) ?_)
           any_goals (first | exact tkAssign rfl)
           rotate_left))
  intro a w4 hF hb hN
  have hBs := hb.size
  replace hB := hB.trans (hb.mono hB.size)
  simp only [List.take_succ_cons, List.take_zero, List.drop_succ_cons, List.drop_zero] at hF hN ⊢
  dsimp only [hideT, List.foldr, extO, Option.getD, OTy.ex, OTy.seg, OTy.slo, OTy.var] at hF
  obtain ⟨F, hown, hdis⟩ := hN
  obtain ⟨v7, k7, ⟨hs7, _⟩, hw7⟩ := hown 6 _ 7 _ rfl rfl rfl (by simp)
  obtain ⟨v8, k8, ⟨hs8, _⟩, hw8⟩ := hown 7 _ 8 _ rfl rfl rfl (by simp)
  obtain ⟨_, k9, ⟨g9, rfl, hF9, hg9, hb9⟩, hw9⟩ := hown 5 _ 9 _ rfl rfl rfl (by simp)
  have d7 := hdis 5 6 _ _ 9 7 (by decide) rfl rfl rfl rfl (by simp) (by simp) g9 (by simp [hF9])
  have d8 := hdis 5 7 _ _ 9 8 (by decide) rfl rfl rfl rfl (by simp) (by simp) g9 (by simp [hF9])
  replace hF := ((hF.letter k9).letter k8).letter k7
  clear hown hdis k7 k8 k9 hN
  refine tlStoreV (Δ := [(5, Ty.at_ 33 x.enc), (7, Ty.ex v7), (8, Ty.ex v8), (9, Ty.ex (.pointer (some ⟨g9, 0, none⟩)))]) hF rfl rfl rfl rfl (hF.getEx (s := 29) rfl) hb9 (by show (u8s _).size = (u8s _).size; rw [u8s_size, u8s_size, Sm.len]; rfl) (by show _ = some (u8s _).size; rw [u8s_size, Sm.len]; exact sizeS) (u8s_one _) (hF.keep [5, 7, 8, 9]) rfl ?_
  intro w5 hF hb9 hk9
  refine wpList_nil ?_
  replace hB := below_own hB hk9 (by intro y hy; simp only [List.mem_singleton] at hy; omega)
  replace hs7 := (hs7.keeps hk9 (by intro y hy hm; simp only [List.mem_singleton] at hm; subst hm; exact d7 hy)).sl
  replace hs8 := (hs8.keeps hk9 (by intro y hy hm; simp only [List.mem_singleton] at hm; subst hm; exact d8 hy)).sl
  have hax : (Ty.at_ 34 x.enc).p w5 (.pointer (some ⟨g9, 0, none⟩)) := by
    have h := blk_at hb9
    rwa [show (Value.agg (u8s x.l)).cells.toList = x.enc from u8s_list _] at h
  clear hb9 hk9 d7 d8 hF9 hg9 hw7 hw8 hw9
  have hw5 := hB.size
  repeat (first | with_reducible refine wp_seq ?_ | with_reducible refine nThen ?_ | with_reducible refine nBlk ?_ | with_reducible refine wp_skip ?_ | with_reducible refine wp_block ?_ | with_reducible refine wp_exit ?_ | with_reducible refine xThen ?_ | with_reducible refine xHere ?_ | with_reducible refine xFar (by decide) ?_ | with_reducible refine wp_ret ?_ | with_reducible refine rThen ?_ | with_reducible refine rBlk ?_)
  refine' region_own 8 [(6, 31), (7, 33)] mixed (by kernel_rfl) hF ?_ ?_
  rotate_left
  · simp only [List.take_succ_cons, List.take_zero]
    repeat (first
        | exact LineO.nil
        | (refine' LineO.cons rfl rfl (.no rfl rfl rfl rfl rfl) ?_; rotate_left)
        | ((first | refine' LineO.cons rfl rfl (.run rfl ?_) ?_ | refine' LineO.cons rfl rfl (.yes rfl rfl rfl ?_) ?_)
           any_goals (first | exact .ex (cMove rfl rfl) | exact .ex (cAssign rfl rfl) | exact .ex (cNot rfl rfl) | exact oCallS1 rfl (.l rfl hs7) (own10_seg L0 (by omega)) | exact oCallS1 rfl (.l rfl hs8) (own10_seg L1 (by omega)) | exact .ex (cLoadSum rfl (.t rfl) Try.underlying33 sizeA) | exact oAlloc rfl (run_alloc_i infoR1) | exact .ex (cPickT rfl rfl rfl) | exact .ex (cPickF rfl rfl rfl) | exact .ex (cLss rfl rfl rfl) | exact .ex (cLeq rfl rfl rfl) | exact .ex (cGtr rfl rfl rfl) | exact .ex (cGeq rfl rfl rfl) | exact .ex (cEql rfl rfl rfl) | exact .ex (cNeq rfl rfl rfl) | exact .ex (cExtract rfl rfl rfl))
           rotate_left)
        | ((first | refine' LineO.take rfl rfl rfl (.run rfl ?_) ?_ | refine' LineO.take rfl rfl rfl (.yes rfl rfl rfl ?_) ?_)
           any_goals (first | exact tkAssign rfl)
           rotate_left))
  intro a w6 hF hb hN
  have hBs := hb.size
  replace hB := hB.trans (hb.mono hB.size)
  simp only [List.take_succ_cons, List.take_zero, List.drop_succ_cons, List.drop_zero] at hF hN ⊢
  dsimp only [hideT, List.foldr, extO, Option.getD, OTy.ex, OTy.seg, OTy.slo, OTy.var] at hF
  replace hs7 := (Ty.sums 34 L0).below hs7 hb
  replace hs8 := (Ty.sums 34 L1).below hs8 hb
  replace hax := (Ty.at_ 34 x.enc).below hax hb
  obtain ⟨F, hown, hdis⟩ := hN
  obtain ⟨v10, k7, ⟨hs10, _⟩, hw7⟩ := hown 6 _ 10 _ rfl rfl rfl (by simp)
  obtain ⟨v11, k8, ⟨hs11, _⟩, hw8⟩ := hown 7 _ 11 _ rfl rfl rfl (by simp)
  obtain ⟨_, k9, ⟨g12, rfl, hF9, hg9, hb9⟩, hw9⟩ := hown 5 _ 12 _ rfl rfl rfl (by simp)
  have d7 := hdis 5 6 _ _ 12 10 (by decide) rfl rfl rfl rfl (by simp) (by simp) g12 (by simp [hF9])
  have d8 := hdis 5 7 _ _ 12 11 (by decide) rfl rfl rfl rfl (by simp) (by simp) g12 (by simp [hF9])
  replace hF := ((hF.letter k9).letter k8).letter k7
  clear hown hdis k7 k8 k9 hN
  refine tlStoreV (Δ := [(7, Ty.ex v7), (8, Ty.ex v8), (9, Ty.ex (.pointer (some ⟨g9, 0, none⟩))), (10, Ty.ex v10), (11, Ty.ex v11), (12, Ty.ex (.pointer (some ⟨g12, 0, none⟩)))]) hF rfl rfl rfl rfl (hF.getEx (s := 34) rfl) hb9 (by show (u8s _).size = (u8s _).size; rw [u8s_size, u8s_size, Sm.len]; rfl) (by show _ = some (u8s _).size; rw [u8s_size, Sm.len]; exact sizeR) (u8s_one _) (hF.keep [7, 8, 9, 10, 11, 12]) rfl ?_
  intro w7 hF hb9' hk9
  refine wpList_nil ?_
  replace hB := below_own hB hk9 (by intro y hy; simp only [List.mem_singleton] at hy; omega)
  replace hs10 := (hs10.keeps hk9 (by intro y hy hm; simp only [List.mem_singleton] at hm; subst hm; exact d7 hy)).sl
  replace hs11 := (hs11.keeps hk9 (by intro y hy hm; simp only [List.mem_singleton] at hm; subst hm; exact d8 hy)).sl
  replace hs7 := (Ty.sums 34 L0).far hs7 hk9 hb9 rfl
  replace hs8 := (Ty.sums 34 L1).far hs8 hk9 hb9 rfl
  replace hax := (Ty.at_ 34 x.enc).far hax hk9 hb9 rfl
  have hbx : (Ty.at_ 61 x.enc).p w7 (.pointer (some ⟨g12, 0, none⟩)) := by
    have h := blk_at hb9'
    rwa [show (Value.agg (u8s x.l)).cells.toList = x.enc from u8s_list _] at h
  clear hb9 hb9' hk9 d7 d8 hF9 hg9 hw7 hw8 hw9
  repeat (first | with_reducible refine wp_seq ?_ | with_reducible refine nThen ?_ | with_reducible refine nBlk ?_ | with_reducible refine wp_skip ?_ | with_reducible refine wp_block ?_ | with_reducible refine wp_exit ?_ | with_reducible refine xThen ?_ | with_reducible refine xHere ?_ | with_reducible refine xFar (by decide) ?_ | with_reducible refine wp_ret ?_ | with_reducible refine rThen ?_ | with_reducible refine rBlk ?_)
  refine' reg_all hF ?_ mixed (by kernel_rfl) ?_
  rotate_left
  · repeat (first
        | exact Line.nil
        | (refine' Line.cons rfl (.no rfl rfl rfl rfl rfl rfl) ?_; rotate_left)
        | ((first | refine' Line.cons rfl (.run rfl rfl ?_) ?_ | refine' Line.cons rfl (.yes rfl rfl rfl rfl ?_) ?_)
           any_goals (first | exact cMove rfl rfl | exact cAssign rfl rfl | exact cNot rfl rfl | exact cCallS1 rfl (.l rfl hs7) (of_ty L0 (by omega)) | exact cPickT rfl rfl rfl | exact cPickF rfl rfl rfl | exact cLss rfl rfl rfl | exact cLeq rfl rfl rfl | exact cGtr rfl rfl rfl | exact cGeq rfl rfl rfl | exact cEql rfl rfl rfl | exact cNeq rfl rfl rfl | exact cExtract rfl rfl rfl)
           rotate_left))
  intro a w8 hF hb hN
  have hBs := hB.size
  replace hB := hB.trans (hb.mono hB.size)
  dsimp only [ext, Option.getD] at hF
  repeat (first | with_reducible refine wp_seq ?_ | with_reducible refine nThen ?_ | with_reducible refine nBlk ?_ | with_reducible refine wp_skip ?_ | with_reducible refine wp_block ?_ | with_reducible refine wp_exit ?_ | with_reducible refine xThen ?_ | with_reducible refine xHere ?_ | with_reducible refine xFar (by decide) ?_ | with_reducible refine wp_ret ?_ | with_reducible refine rThen ?_ | with_reducible refine rBlk ?_)
  replace hs7 := (Ty.sums 34 L0).below hs7 hb
  replace hs8 := (Ty.sums 34 L1).below hs8 hb
  replace hax := (Ty.at_ 34 x.enc).below hax hb
  replace hs10 : (Ty.sums 61 L0).p w8 v10 := (Ty.sums 61 L0).below hs10 hb
  replace hs11 : (Ty.sums 61 L1).p w8 v11 := (Ty.sums 61 L1).below hs11 hb
  replace hbx := (Ty.at_ 61 x.enc).below hbx hb
  obtain ⟨v13, ⟨S13, hs13, _⟩, hF⟩ := hF.open (s := 13) rfl
  replace hs13 : (Ty.sums 34 (setL L0)).p w8 v13 := hs13.sl
  have n0 := setL_len L0
  have n1 := setL_len L1
  have nm := minusL_len L0 L1
  have nb := bothL_len L0 L1
  have na := setL_len (L0 ++ [x])
  have ne := setL_len (L0 ++ L1)
  rw [List.length_append] at na ne
  simp only [List.length_singleton] at na
  have cO0 := own10_seg (setL L0) (by omega)
  have cOa := own10_seg (setL (L0 ++ [x])) (by omega)
  have cOm := own10_seg (minusL L0 L1) (by omega)
  have cOb := own10_seg (bothL L0 L1) (by omega)
  have cOe := own10_seg (setL (L0 ++ L1)) (by omega)
  have cF0 := r10of_ty L0 (by omega)
  have cFa := r10of_ty (L0 ++ [x]) (by rw [List.length_append]; simp only [List.length_singleton]; omega)
  have same : ∀ D : List Sm, D.length ≤ 1000 → Fn2 Try.prog 51 (Ty.sums 61 D) (Ty.sums 61 D) (Ty.ex (.bool true)) := fun D hD => by
    have h := r10same_ty D D (by omega)
    rwa [decide_eq_true rfl] at h
  have cS0 := same (setL L0) (by omega)
  have cSa := same (setL (L0 ++ [x])) (by omega)
  have cSm := same (minusL L0 L1) (by omega)
  have cSb := same (bothL L0 L1) (by omega)
  have cSe := same (setL (L0 ++ L1)) (by omega)
  have cG := good_ty L0 (by omega)
  have cH := has_ty L0 x (by omega)
  have cHo := has_ty (setL L0) x (by omega)
  rw [goodL_srt (setL_srt L0), decide_eq_true (show (setL L0).length ≤ 512 by omega), Bool.true_and, show decide (x ∈ setL L0) = decide (x ∈ L0) from decide_eq_decide.2 (setL_mem L0 x)] at cHo
  have cRH := r10has_ty L0 x (by omega)
  have cA := add_ty L0 x (by omega)
  have cM := minus_ty L0 L1 (by omega) (by omega)
  have cB := both_ty L0 L1 (by omega) (by omega)
  have cE := either_ty L0 L1 (by omega) (by omega)
  have cRM := r10minus_ty L0 L1 (by omega) (by omega)
  have cRB := r10both_ty L0 L1 (by omega) (by omega)
  have cRE := r10either_ty L0 L1 (by omega) (by omega)
  have cSS := same_ty L0 L1 (by omega) (by omega)
  have cRS := r10same_ty L0 L1 (by omega)
  have cT := tell_ty L0 (by omega)
  have cRT := r10tell_ty L0 (by omega)
  have cRG := r10good_ty L1 (by omega)
  have cRG0 := r10good_ty L0 (by omega)
  unfold sameL at cSS
  have l0 := flat_len L0
  have l2 : (flat [x]).length = 1 * 32 := by rw [flat_len]; rfl
  have conv : ∀ (w0 w : World) (v : Value), (Ty.seg w0 61 32 (0 + L0.length + 1) ([] ++ flat L0 ++ flat [x])).p w v → (Ty.sums 61 (L0 ++ [x])).p w v := fun w0 w v h => by
    have h := seg_sl _ _ h
    rwa [show 0 + L0.length + 1 = (L0 ++ [x]).length by simp, show [] ++ flat L0 ++ flat [x] = flat (L0 ++ [x]) by rw [flat_append]; rfl] at h
  have eqself : ∀ b : Bool, (b == b) = true := fun b => beq_self_eq_true b
  have cT' : ∀ w : World, (binOp .eql 61 (.agg (u8s (shaS (byL (setL L0))).l)) (.agg (u8s (shaS (byL (setL L0))).l))).run Try.prog w = .ok (.bool true) w := fun w => by rw [eqlR, decide_eq_true rfl]
  generalize shaS (byL (setL L0)) = Y at *
  generalize minusL L0 L1 = XM at *
  generalize bothL L0 L1 = XB at *
  generalize setL (L0 ++ [x]) = XA at *
  generalize setL (L0 ++ L1) = XE at *
  generalize setL L0 = X0 at *
  generalize decide (x ∈ L0) = d at *
  generalize decide (L0 = L1) = e at *
  generalize goodL L0 = g0 at *
  generalize goodL L1 = g1 at *
  repeat (first | with_reducible refine wp_seq ?_ | with_reducible refine nThen ?_ | with_reducible refine nBlk ?_ | with_reducible refine wp_skip ?_ | with_reducible refine wp_block ?_ | with_reducible refine wp_exit ?_ | with_reducible refine xThen ?_ | with_reducible refine xHere ?_ | with_reducible refine xFar (by decide) ?_ | with_reducible refine wp_ret ?_ | with_reducible refine rThen ?_ | with_reducible refine rBlk ?_)
  refine' reg_all hF ?_ mixed (by kernel_rfl) ?_
  rotate_left
  · repeat (first
        | exact Line.nil
        | (refine' Line.cons rfl (.no rfl rfl rfl rfl rfl rfl) ?_; rotate_left)
        | ((first | refine' Line.cons rfl (.run rfl rfl ?_) ?_ | refine' Line.cons rfl (.yes rfl rfl rfl rfl ?_) ?_)
           any_goals (first | exact cMove rfl rfl | exact cAssign rfl rfl | exact cNot rfl rfl | exact cCallH1 rfl (.l rfl hs10) cRG0 | exact cPickT rfl rfl rfl | exact cPickF rfl rfl rfl | exact cLss rfl rfl rfl | exact cLeq rfl rfl rfl | exact cGtr rfl rfl rfl | exact cGeq rfl rfl rfl | exact cEql rfl rfl rfl | exact cNeq rfl rfl rfl | exact cExtract rfl rfl rfl)
           rotate_left))
  intro a w9 hF hb hN
  have hBs := hB.size
  replace hB := hB.trans (hb.mono hB.size)
  dsimp only [ext, Option.getD] at hF
  repeat (first | with_reducible refine wp_seq ?_ | with_reducible refine nThen ?_ | with_reducible refine nBlk ?_ | with_reducible refine wp_skip ?_ | with_reducible refine wp_block ?_ | with_reducible refine wp_exit ?_ | with_reducible refine xThen ?_ | with_reducible refine xHere ?_ | with_reducible refine xFar (by decide) ?_ | with_reducible refine wp_ret ?_ | with_reducible refine rThen ?_ | with_reducible refine rBlk ?_)
  replace hs7 := (Ty.sums 34 L0).below hs7 hb
  replace hs8 := (Ty.sums 34 L1).below hs8 hb
  replace hax := (Ty.at_ 34 x.enc).below hax hb
  replace hs10 := (Ty.sums 61 L0).below hs10 hb
  replace hs11 := (Ty.sums 61 L1).below hs11 hb
  replace hs13 := (Ty.sums 34 X0).below hs13 hb
  replace hbx := (Ty.at_ 61 x.enc).below hbx hb
  refine wp_mono (Q := fun e a w' => e = .normal ∧ Below W.heap.size W w' ∧ Fr 138 [(6, Ty.ex (.bool true))] a w') ?_ ?_
  · cases g0 with
    | false =>
      rw [Bool.false_and] at cH cSS
      rw [Bool.false_and] at cSS
      refine' region_own 99 [(39, 76), (42, 78)] mixed (by kernel_rfl) hF ?_ ?_
      rotate_left
      · simp only [List.append_eq, List.cons_append, List.nil_append, List.take_succ_cons, List.take_zero]
        repeat (first
            | exact LineO.nil
            | (refine' LineO.cons rfl rfl (.no rfl rfl rfl rfl rfl) ?_; rotate_left)
            | ((first | refine' LineO.cons rfl rfl (.run rfl ?_) ?_ | refine' LineO.cons rfl rfl (.yes rfl rfl rfl ?_) ?_)
               any_goals (first | exact .ex (cMove rfl rfl) | exact .ex (cAssign rfl rfl) | exact .ex (cNot rfl rfl) | exact oCallS1 rfl (.l rfl hs13) cO0 | exact oCallS1 rfl (.l rfl hs10) cF0 | exact oCallS1 rfl (Has.c (.t rfl) seg_sl) cOa | exact oCallS1 rfl (Has.c (.t rfl) seg_sl) cOm | exact oCallS1 rfl (Has.c (.t rfl) seg_sl) cOb | exact oCallS1 rfl (Has.c (.t rfl) seg_sl) cOe | exact oCallS1 rfl (Has.c (.t rfl) (conv _)) cFa | exact .ex (cCallH2 rfl (Has.c (.t rfl) seg_sl) (Has.c (.t rfl) seg_sl) cS0) | exact .ex (cCallH2 rfl (Has.c (.t rfl) seg_sl) (Has.c (.t rfl) seg_sl) cSa) | exact .ex (cCallH2 rfl (Has.c (.t rfl) seg_sl) (Has.c (.t rfl) seg_sl) cSm) | exact .ex (cCallH2 rfl (Has.c (.t rfl) seg_sl) (Has.c (.t rfl) seg_sl) cSb) | exact .ex (cCallH2 rfl (Has.c (.t rfl) seg_sl) (Has.c (.t rfl) seg_sl) cSe) | exact .ex (cCallH1 rfl (.l rfl hs7) cG) | exact .ex (cCallH1 rfl (.l rfl hs11) cRG) | exact .ex (OpOk.b (cEqlBool rfl rfl rfl Try.underlying4) (eqself _)) | exact .ex (cLoadSum rfl (.l rfl hax) Try.underlying34 sizeS) | exact .ex (cLoadSum rfl (.l rfl hbx) Try.underlying61 sizeR) | exact .ex (cCallH2 rfl (.l rfl hs7) (.t rfl) cH) | exact .ex (cCallH2 rfl (.l rfl hs13) (.t rfl) cHo) | exact .ex (cCallH2 rfl (.l rfl hs10) (.t rfl) cRH) | exact oCallS2 rfl (.l rfl hs7) (.t rfl) cA | exact oBuild0 rfl Try.underlying58 infoR1 | exact oBuildSum1 (x := x) rfl rfl Try.underlying58 infoR1 | exact oCallS2 rfl (.l rfl hs7) (.l rfl hs8) cM | exact oCallS2 rfl (.l rfl hs7) (.l rfl hs8) cB | exact oCallS2 rfl (.l rfl hs7) (.l rfl hs8) cE | exact oCallS2 rfl (.l rfl hs10) (.l rfl hs11) cRM | exact oCallS2 rfl (.l rfl hs10) (.l rfl hs11) cRB | exact oCallS2 rfl (.l rfl hs10) (.l rfl hs11) cRE | exact .ex (cCallH2 rfl (.l rfl hs7) (.l rfl hs8) cSS) | exact .ex (cCallH2 rfl (.l rfl hs10) (.l rfl hs11) cRS) | exact .ex (cCallH1 rfl (.l rfl hs7) cT) | exact .ex (cCallH1 rfl (.l rfl hs10) cRT) | exact .ex (cEqlAgg rfl rfl rfl guardR cT') | exact .ex (cPickT rfl rfl rfl) | exact .ex (cPickF rfl rfl rfl) | exact .ex (cLss rfl rfl rfl) | exact .ex (cLeq rfl rfl rfl) | exact .ex (cGtr rfl rfl rfl) | exact .ex (cGeq rfl rfl rfl) | exact .ex (cEql rfl rfl rfl) | exact .ex (cNeq rfl rfl rfl) | exact .ex (cExtract rfl rfl rfl))
               rotate_left)
            | ((first | refine' LineO.take rfl rfl rfl (.run rfl ?_) ?_ | refine' LineO.take rfl rfl rfl (.yes rfl rfl rfl ?_) ?_)
               any_goals (first | exact tkAppend (m := L0.length) (news := flat L0) rfl Try.underlying58 infoR1 zero32_size (.l rfl hs10) sl_news l0 flat_one' (by simp [maxLen]; omega) (by omega) | exact tkAppend (m := 1) (news := flat [x]) rfl Try.underlying58 infoR1 zero32_size (.t rfl) seg_news l2 flat_one' (by simp [maxLen]; omega) (by omega))
               rotate_left))
      intro a w10 hF hb hN
      have hBs := hb.size
      replace hB := hB.trans (hb.mono hB.size)
      simp only [List.append_eq, List.cons_append, List.nil_append] at hF hN ⊢
      simp only [List.take_succ_cons, List.take_zero, List.drop_succ_cons, List.drop_zero] at hF hN ⊢
      dsimp only [hideT, List.foldr, extO, Option.getD, OTy.ex, OTy.seg, OTy.slo, OTy.var] at hF
      refine' tlOp hF rfl rfl rfl ?_ ?_
      rotate_left
      · first | exact cMove rfl rfl | exact cAssign rfl rfl | exact cPickT rfl rfl rfl | exact cPickF rfl rfl rfl | exact cNot rfl rfl | exact cLss rfl rfl rfl | exact cLeq rfl rfl rfl | exact cGtr rfl rfl rfl | exact cGeq rfl rfl rfl | exact cEql rfl rfl rfl | exact cNeq rfl rfl rfl | exact cExtract rfl rfl rfl
      intro a w11 hF hb
      have hBs := hB.size
      replace hB := hB.trans (hb.mono hB.size)
      try (refine wpList_nil ?_)
      repeat (first | with_reducible refine wp_seq ?_ | with_reducible refine nThen ?_ | with_reducible refine nBlk ?_ | with_reducible refine wp_skip ?_ | with_reducible refine wp_block ?_ | with_reducible refine wp_exit ?_ | with_reducible refine xThen ?_ | with_reducible refine xHere ?_ | with_reducible refine xFar (by decide) ?_ | with_reducible refine wp_ret ?_ | with_reducible refine rThen ?_ | with_reducible refine rBlk ?_)
      exact ⟨rfl, hB, hF.keep [6]⟩
    | true =>
      rw [Bool.true_and] at cH cSS
      cases g1 with
      | false =>
        rw [Bool.false_and] at cSS
        refine' region_own 99 [(39, 76), (42, 78)] mixed (by kernel_rfl) hF ?_ ?_
        rotate_left
        · simp only [List.append_eq, List.cons_append, List.nil_append, List.take_succ_cons, List.take_zero]
          repeat (first
              | exact LineO.nil
              | (refine' LineO.cons rfl rfl (.no rfl rfl rfl rfl rfl) ?_; rotate_left)
              | ((first | refine' LineO.cons rfl rfl (.run rfl ?_) ?_ | refine' LineO.cons rfl rfl (.yes rfl rfl rfl ?_) ?_)
                 any_goals (first | exact .ex (cMove rfl rfl) | exact .ex (cAssign rfl rfl) | exact .ex (cNot rfl rfl) | exact oCallS1 rfl (.l rfl hs13) cO0 | exact oCallS1 rfl (.l rfl hs10) cF0 | exact oCallS1 rfl (Has.c (.t rfl) seg_sl) cOa | exact oCallS1 rfl (Has.c (.t rfl) seg_sl) cOm | exact oCallS1 rfl (Has.c (.t rfl) seg_sl) cOb | exact oCallS1 rfl (Has.c (.t rfl) seg_sl) cOe | exact oCallS1 rfl (Has.c (.t rfl) (conv _)) cFa | exact .ex (cCallH2 rfl (Has.c (.t rfl) seg_sl) (Has.c (.t rfl) seg_sl) cS0) | exact .ex (cCallH2 rfl (Has.c (.t rfl) seg_sl) (Has.c (.t rfl) seg_sl) cSa) | exact .ex (cCallH2 rfl (Has.c (.t rfl) seg_sl) (Has.c (.t rfl) seg_sl) cSm) | exact .ex (cCallH2 rfl (Has.c (.t rfl) seg_sl) (Has.c (.t rfl) seg_sl) cSb) | exact .ex (cCallH2 rfl (Has.c (.t rfl) seg_sl) (Has.c (.t rfl) seg_sl) cSe) | exact .ex (cCallH1 rfl (.l rfl hs7) cG) | exact .ex (cCallH1 rfl (.l rfl hs11) cRG) | exact .ex (OpOk.b (cEqlBool rfl rfl rfl Try.underlying4) (eqself _)) | exact .ex (cLoadSum rfl (.l rfl hax) Try.underlying34 sizeS) | exact .ex (cLoadSum rfl (.l rfl hbx) Try.underlying61 sizeR) | exact .ex (cCallH2 rfl (.l rfl hs7) (.t rfl) cH) | exact .ex (cCallH2 rfl (.l rfl hs13) (.t rfl) cHo) | exact .ex (cCallH2 rfl (.l rfl hs10) (.t rfl) cRH) | exact oCallS2 rfl (.l rfl hs7) (.t rfl) cA | exact oBuild0 rfl Try.underlying58 infoR1 | exact oBuildSum1 (x := x) rfl rfl Try.underlying58 infoR1 | exact oCallS2 rfl (.l rfl hs7) (.l rfl hs8) cM | exact oCallS2 rfl (.l rfl hs7) (.l rfl hs8) cB | exact oCallS2 rfl (.l rfl hs7) (.l rfl hs8) cE | exact oCallS2 rfl (.l rfl hs10) (.l rfl hs11) cRM | exact oCallS2 rfl (.l rfl hs10) (.l rfl hs11) cRB | exact oCallS2 rfl (.l rfl hs10) (.l rfl hs11) cRE | exact .ex (cCallH2 rfl (.l rfl hs7) (.l rfl hs8) cSS) | exact .ex (cCallH2 rfl (.l rfl hs10) (.l rfl hs11) cRS) | exact .ex (cCallH1 rfl (.l rfl hs7) cT) | exact .ex (cCallH1 rfl (.l rfl hs10) cRT) | exact .ex (cEqlAgg rfl rfl rfl guardR cT') | exact .ex (cPickT rfl rfl rfl) | exact .ex (cPickF rfl rfl rfl) | exact .ex (cLss rfl rfl rfl) | exact .ex (cLeq rfl rfl rfl) | exact .ex (cGtr rfl rfl rfl) | exact .ex (cGeq rfl rfl rfl) | exact .ex (cEql rfl rfl rfl) | exact .ex (cNeq rfl rfl rfl) | exact .ex (cExtract rfl rfl rfl))
                 rotate_left)
              | ((first | refine' LineO.take rfl rfl rfl (.run rfl ?_) ?_ | refine' LineO.take rfl rfl rfl (.yes rfl rfl rfl ?_) ?_)
                 any_goals (first | exact tkAppend (m := L0.length) (news := flat L0) rfl Try.underlying58 infoR1 zero32_size (.l rfl hs10) sl_news l0 flat_one' (by simp [maxLen]; omega) (by omega) | exact tkAppend (m := 1) (news := flat [x]) rfl Try.underlying58 infoR1 zero32_size (.t rfl) seg_news l2 flat_one' (by simp [maxLen]; omega) (by omega))
                 rotate_left))
        intro a w10 hF hb hN
        have hBs := hb.size
        replace hB := hB.trans (hb.mono hB.size)
        simp only [List.append_eq, List.cons_append, List.nil_append] at hF hN ⊢
        simp only [List.take_succ_cons, List.take_zero, List.drop_succ_cons, List.drop_zero] at hF hN ⊢
        dsimp only [hideT, List.foldr, extO, Option.getD, OTy.ex, OTy.seg, OTy.slo, OTy.var] at hF
        refine' tlOp hF rfl rfl rfl ?_ ?_
        rotate_left
        · first | exact cMove rfl rfl | exact cAssign rfl rfl | exact cPickT rfl rfl rfl | exact cPickF rfl rfl rfl | exact cNot rfl rfl | exact cLss rfl rfl rfl | exact cLeq rfl rfl rfl | exact cGtr rfl rfl rfl | exact cGeq rfl rfl rfl | exact cEql rfl rfl rfl | exact cNeq rfl rfl rfl | exact cExtract rfl rfl rfl
        intro a w11 hF hb
        have hBs := hB.size
        replace hB := hB.trans (hb.mono hB.size)
        try (refine wpList_nil ?_)
        repeat (first | with_reducible refine wp_seq ?_ | with_reducible refine nThen ?_ | with_reducible refine nBlk ?_ | with_reducible refine wp_skip ?_ | with_reducible refine wp_block ?_ | with_reducible refine wp_exit ?_ | with_reducible refine xThen ?_ | with_reducible refine xHere ?_ | with_reducible refine xFar (by decide) ?_ | with_reducible refine wp_ret ?_ | with_reducible refine rThen ?_ | with_reducible refine rBlk ?_)
        exact ⟨rfl, hB, hF.keep [6]⟩
      | true =>
        rw [Bool.true_and] at cSS
        refine' region_own 99 [(39, 76), (42, 78)] mixed (by kernel_rfl) hF ?_ ?_
        rotate_left
        · simp only [List.append_eq, List.cons_append, List.nil_append, List.take_succ_cons, List.take_zero]
          repeat (first
              | exact LineO.nil
              | (refine' LineO.cons rfl rfl (.no rfl rfl rfl rfl rfl) ?_; rotate_left)
              | ((first | refine' LineO.cons rfl rfl (.run rfl ?_) ?_ | refine' LineO.cons rfl rfl (.yes rfl rfl rfl ?_) ?_)
                 any_goals (first | exact .ex (cMove rfl rfl) | exact .ex (cAssign rfl rfl) | exact .ex (cNot rfl rfl) | exact oCallS1 rfl (.l rfl hs13) cO0 | exact oCallS1 rfl (.l rfl hs10) cF0 | exact oCallS1 rfl (Has.c (.t rfl) seg_sl) cOa | exact oCallS1 rfl (Has.c (.t rfl) seg_sl) cOm | exact oCallS1 rfl (Has.c (.t rfl) seg_sl) cOb | exact oCallS1 rfl (Has.c (.t rfl) seg_sl) cOe | exact oCallS1 rfl (Has.c (.t rfl) (conv _)) cFa | exact .ex (cCallH2 rfl (Has.c (.t rfl) seg_sl) (Has.c (.t rfl) seg_sl) cS0) | exact .ex (cCallH2 rfl (Has.c (.t rfl) seg_sl) (Has.c (.t rfl) seg_sl) cSa) | exact .ex (cCallH2 rfl (Has.c (.t rfl) seg_sl) (Has.c (.t rfl) seg_sl) cSm) | exact .ex (cCallH2 rfl (Has.c (.t rfl) seg_sl) (Has.c (.t rfl) seg_sl) cSb) | exact .ex (cCallH2 rfl (Has.c (.t rfl) seg_sl) (Has.c (.t rfl) seg_sl) cSe) | exact .ex (cCallH1 rfl (.l rfl hs7) cG) | exact .ex (cCallH1 rfl (.l rfl hs11) cRG) | exact .ex (OpOk.b (cEqlBool rfl rfl rfl Try.underlying4) (eqself _)) | exact .ex (cLoadSum rfl (.l rfl hax) Try.underlying34 sizeS) | exact .ex (cLoadSum rfl (.l rfl hbx) Try.underlying61 sizeR) | exact .ex (cCallH2 rfl (.l rfl hs7) (.t rfl) cH) | exact .ex (cCallH2 rfl (.l rfl hs13) (.t rfl) cHo) | exact .ex (cCallH2 rfl (.l rfl hs10) (.t rfl) cRH) | exact oCallS2 rfl (.l rfl hs7) (.t rfl) cA | exact oBuild0 rfl Try.underlying58 infoR1 | exact oBuildSum1 (x := x) rfl rfl Try.underlying58 infoR1 | exact oCallS2 rfl (.l rfl hs7) (.l rfl hs8) cM | exact oCallS2 rfl (.l rfl hs7) (.l rfl hs8) cB | exact oCallS2 rfl (.l rfl hs7) (.l rfl hs8) cE | exact oCallS2 rfl (.l rfl hs10) (.l rfl hs11) cRM | exact oCallS2 rfl (.l rfl hs10) (.l rfl hs11) cRB | exact oCallS2 rfl (.l rfl hs10) (.l rfl hs11) cRE | exact .ex (cCallH2 rfl (.l rfl hs7) (.l rfl hs8) cSS) | exact .ex (cCallH2 rfl (.l rfl hs10) (.l rfl hs11) cRS) | exact .ex (cCallH1 rfl (.l rfl hs7) cT) | exact .ex (cCallH1 rfl (.l rfl hs10) cRT) | exact .ex (cEqlAgg rfl rfl rfl guardR cT') | exact .ex (cPickT rfl rfl rfl) | exact .ex (cPickF rfl rfl rfl) | exact .ex (cLss rfl rfl rfl) | exact .ex (cLeq rfl rfl rfl) | exact .ex (cGtr rfl rfl rfl) | exact .ex (cGeq rfl rfl rfl) | exact .ex (cEql rfl rfl rfl) | exact .ex (cNeq rfl rfl rfl) | exact .ex (cExtract rfl rfl rfl))
                 rotate_left)
              | ((first | refine' LineO.take rfl rfl rfl (.run rfl ?_) ?_ | refine' LineO.take rfl rfl rfl (.yes rfl rfl rfl ?_) ?_)
                 any_goals (first | exact tkAppend (m := L0.length) (news := flat L0) rfl Try.underlying58 infoR1 zero32_size (.l rfl hs10) sl_news l0 flat_one' (by simp [maxLen]; omega) (by omega) | exact tkAppend (m := 1) (news := flat [x]) rfl Try.underlying58 infoR1 zero32_size (.t rfl) seg_news l2 flat_one' (by simp [maxLen]; omega) (by omega))
                 rotate_left))
        intro a w10 hF hb hN
        have hBs := hb.size
        replace hB := hB.trans (hb.mono hB.size)
        simp only [List.append_eq, List.cons_append, List.nil_append] at hF hN ⊢
        simp only [List.take_succ_cons, List.take_zero, List.drop_succ_cons, List.drop_zero] at hF hN ⊢
        dsimp only [hideT, List.foldr, extO, Option.getD, OTy.ex, OTy.seg, OTy.slo, OTy.var] at hF
        refine' tlOp hF rfl rfl rfl ?_ ?_
        rotate_left
        · first | exact cMove rfl rfl | exact cAssign rfl rfl | exact cPickT rfl rfl rfl | exact cPickF rfl rfl rfl | exact cNot rfl rfl | exact cLss rfl rfl rfl | exact cLeq rfl rfl rfl | exact cGtr rfl rfl rfl | exact cGeq rfl rfl rfl | exact cEql rfl rfl rfl | exact cNeq rfl rfl rfl | exact cExtract rfl rfl rfl
        intro a w11 hF hb
        have hBs := hB.size
        replace hB := hB.trans (hb.mono hB.size)
        try (refine wpList_nil ?_)
        repeat (first | with_reducible refine wp_seq ?_ | with_reducible refine nThen ?_ | with_reducible refine nBlk ?_ | with_reducible refine wp_skip ?_ | with_reducible refine wp_block ?_ | with_reducible refine wp_exit ?_ | with_reducible refine xThen ?_ | with_reducible refine xHere ?_ | with_reducible refine xFar (by decide) ?_ | with_reducible refine wp_ret ?_ | with_reducible refine rThen ?_ | with_reducible refine rBlk ?_)
        exact ⟨rfl, hB, hF.keep [6]⟩
  clear hF hB
  rintro e a w' ⟨rfl, hB, hF⟩
  repeat (first | with_reducible refine wp_seq ?_ | with_reducible refine nThen ?_ | with_reducible refine nBlk ?_ | with_reducible refine wp_skip ?_ | with_reducible refine wp_block ?_ | with_reducible refine wp_exit ?_ | with_reducible refine xThen ?_ | with_reducible refine xHere ?_ | with_reducible refine xFar (by decide) ?_ | with_reducible refine wp_ret ?_ | with_reducible refine rThen ?_ | with_reducible refine rBlk ?_)
  refine ret1 hF rfl rfl fun z hz => ?_
  exact ⟨by rw [show z = .bool true from hz], hB⟩
end Go.Proofs.Ytmlbkcpmgcjblaa
