/- Layer 14 by types: Word, GoodCells, Good, ints. -/
import Derived.Test.YtofekkhhminkhaaDoorSetB
import Derived.Test.YtofekkhhminkhaaDoorTyP
import Derived.Test.YtofekkhhminkhaaDoorWordP
namespace Go.Proofs.YtofekkhhminkhaaDoor
open Go.RowKit

section
variable {P : Program} {w0 : World} {Γ : Ctx} {o : Oper} {t t2 : TypeId} {x y : Operand}
theorem cOr {k : IntKind} {m n r : Int} (ho : o.op = .binOp .or t x y t2) (hx : OpT Γ x (Ty.ex (.int k m))) (hy : OpT Γ y (Ty.ex (.int k n))) (hr : bits .or k m n = r) : OpOk P w0 Γ o (Ty.ex (.int k r)) :=
  cBin ho hx hy fun w => by subst hr; simp [eqGuard, binOp, Op.intBits, bits]
theorem cShl {k j : IntKind} {m n r : Int} (ho : o.op = .binOp .shl t x y t2) (hx : OpT Γ x (Ty.ex (.int k m))) (hy : OpT Γ y (Ty.ex (.int j n))) (hn : 0 ≤ n ∧ n.toNat ≤ k.bits) (hr : k.wrap (m * 2 ^ n.toNat) = r) : OpOk P w0 Γ o (Ty.ex (.int k r)) :=
  cBin ho hx hy fun w => by
    have h1 : ¬ n < 0 := by omega
    have h2 : min n.toNat k.bits = n.toNat := Nat.min_eq_left hn.2
    simp [eqGuard, binOp, Op.shift, h1, h2, hr]
theorem cRemI {m n r : Int} {k : IntKind} (ho : o.op = .binOp .rem t x y t2) (hx : OpT Γ x (Ty.ex (.int k m))) (hy : OpT Γ y (Ty.ex (.int k n))) (hn : n ≠ 0) (hr : m.tmod n = r) : OpOk P w0 Γ o (Ty.ex (.int k r)) := by
  have h := cRem (P := P) (w0 := w0) ho hx hy hn
  rwa [hr] at h
end
theorem three_ne : (3 : Int) ≠ 0 := by decide
def goodN (n : Int) : Bool := decide (3 ≤ n ∧ n ≤ 1024 ∧ n % 3 = 0)
set_option maxRecDepth 100000 in
theorem good14_ty (n : Int) : Fn1 Tryd.prog 13 (Ty.ex (.int .i64 n)) (Ty.ex (.bool (goodN n))) := by
  refine ⟨fun args w => by kernel_rfl, fun w v hv => ?_⟩
  by_cases h1 : 3 ≤ n
  · by_cases h2 : n ≤ 1024
    · refine enter_ty 14 [Ty.ex (.int .i64 n)] Tryd.func13 rfl (by kernel_rfl) ⟨hv, trivial⟩ fun a hF => ?_
      have hB := Below.refl w.heap.size w
      repeat (first | with_reducible refine wp_seq ?_ | with_reducible refine nThen ?_ | with_reducible refine nBlk ?_ | with_reducible refine wp_skip ?_ | with_reducible refine wp_block ?_ | with_reducible refine wp_exit ?_ | with_reducible refine xThen ?_ | with_reducible refine xHere ?_ | with_reducible refine xFar (by decide) ?_ | with_reducible refine wp_ret ?_ | with_reducible refine rThen ?_ | with_reducible refine rBlk ?_)
      refine' reg_all hF ?_ mixed (by kernel_rfl) ?_
      rotate_left
      · repeat (first
            | exact Line.nil
            | (refine' Line.cons rfl (.no rfl rfl rfl rfl rfl rfl) ?_; rotate_left)
            | ((first | refine' Line.cons rfl (.run rfl rfl ?_) ?_ | refine' Line.cons rfl (.yes rfl rfl rfl rfl ?_) ?_)
               any_goals (first | exact cMove rfl rfl | exact cAssign rfl rfl | exact cNot rfl rfl | exact cPickT rfl rfl rfl | exact cPickF rfl rfl rfl | exact cLss rfl rfl rfl | exact cLeq rfl rfl rfl | exact cGtr rfl rfl rfl | exact cGeq rfl rfl rfl | exact cEql rfl rfl rfl | exact cNeq rfl rfl rfl | exact cExtract rfl rfl rfl)
               rotate_left))
      intro a w1 hF hb hN
      have hBs := hB.size
      replace hB := hB.trans (hb.mono hB.size)
      dsimp only [ext, Option.getD] at hF
      repeat (first | with_reducible refine wp_seq ?_ | with_reducible refine nThen ?_ | with_reducible refine nBlk ?_ | with_reducible refine wp_skip ?_ | with_reducible refine wp_block ?_ | with_reducible refine wp_exit ?_ | with_reducible refine xThen ?_ | with_reducible refine xHere ?_ | with_reducible refine xFar (by decide) ?_ | with_reducible refine wp_ret ?_ | with_reducible refine rThen ?_ | with_reducible refine rBlk ?_)
      refine' reg_all hF ?_ mixed (by kernel_rfl) ?_
      rotate_left
      · repeat (first
            | exact Line.nil
            | (refine' Line.cons rfl (.no rfl rfl rfl rfl rfl rfl) ?_; rotate_left)
            | ((first | refine' Line.cons rfl (.run rfl rfl ?_) ?_ | refine' Line.cons rfl (.yes rfl rfl rfl rfl ?_) ?_)
               any_goals (first | exact cMove rfl rfl | exact cAssign rfl rfl | exact cNot rfl rfl | exact OpOk.b (c := true) (cGeq rfl rfl rfl) (decide_eq_true h1) | exact OpOk.b (c := true) (cLeq rfl rfl rfl) (decide_eq_true h2) | exact cRemI rfl rfl rfl three_ne rfl | exact cPickT rfl rfl rfl | exact cPickF rfl rfl rfl | exact cLss rfl rfl rfl | exact cLeq rfl rfl rfl | exact cGtr rfl rfl rfl | exact cGeq rfl rfl rfl | exact cEql rfl rfl rfl | exact cNeq rfl rfl rfl | exact cExtract rfl rfl rfl)
               rotate_left))
      intro a w2 hF hb hN
      have hBs := hB.size
      replace hB := hB.trans (hb.mono hB.size)
      dsimp only [ext, Option.getD] at hF
      repeat (first | with_reducible refine wp_seq ?_ | with_reducible refine nThen ?_ | with_reducible refine nBlk ?_ | with_reducible refine wp_skip ?_ | with_reducible refine wp_block ?_ | with_reducible refine wp_exit ?_ | with_reducible refine xThen ?_ | with_reducible refine xHere ?_ | with_reducible refine xFar (by decide) ?_ | with_reducible refine wp_ret ?_ | with_reducible refine rThen ?_ | with_reducible refine rBlk ?_)
      refine ret1 hF rfl rfl fun z hz => ?_
      refine ⟨z, rfl, ?_, hB⟩
      have hz : z = .bool (decide (n.tmod 3 = 0)) := hz
      rw [hz]
      show _ = _
      congr 1
      unfold goodN
      rw [Bool.eq_iff_iff, decide_eq_true_eq, decide_eq_true_eq]
      have := Int.tmod_eq_emod_of_nonneg (a := n) (b := 3) (by omega)
      omega
    · refine enter_ty 14 [Ty.ex (.int .i64 n)] Tryd.func13 rfl (by kernel_rfl) ⟨hv, trivial⟩ fun a hF => ?_
      have hB := Below.refl w.heap.size w
      repeat (first | with_reducible refine wp_seq ?_ | with_reducible refine nThen ?_ | with_reducible refine nBlk ?_ | with_reducible refine wp_skip ?_ | with_reducible refine wp_block ?_ | with_reducible refine wp_exit ?_ | with_reducible refine xThen ?_ | with_reducible refine xHere ?_ | with_reducible refine xFar (by decide) ?_ | with_reducible refine wp_ret ?_ | with_reducible refine rThen ?_ | with_reducible refine rBlk ?_)
      refine' reg_all hF ?_ mixed (by kernel_rfl) ?_
      rotate_left
      · repeat (first
            | exact Line.nil
            | (refine' Line.cons rfl (.no rfl rfl rfl rfl rfl rfl) ?_; rotate_left)
            | ((first | refine' Line.cons rfl (.run rfl rfl ?_) ?_ | refine' Line.cons rfl (.yes rfl rfl rfl rfl ?_) ?_)
               any_goals (first | exact cMove rfl rfl | exact cAssign rfl rfl | exact cNot rfl rfl | exact cPickT rfl rfl rfl | exact cPickF rfl rfl rfl | exact cLss rfl rfl rfl | exact cLeq rfl rfl rfl | exact cGtr rfl rfl rfl | exact cGeq rfl rfl rfl | exact cEql rfl rfl rfl | exact cNeq rfl rfl rfl | exact cExtract rfl rfl rfl)
               rotate_left))
      intro a w1 hF hb hN
      have hBs := hB.size
      replace hB := hB.trans (hb.mono hB.size)
      dsimp only [ext, Option.getD] at hF
      repeat (first | with_reducible refine wp_seq ?_ | with_reducible refine nThen ?_ | with_reducible refine nBlk ?_ | with_reducible refine wp_skip ?_ | with_reducible refine wp_block ?_ | with_reducible refine wp_exit ?_ | with_reducible refine xThen ?_ | with_reducible refine xHere ?_ | with_reducible refine xFar (by decide) ?_ | with_reducible refine wp_ret ?_ | with_reducible refine rThen ?_ | with_reducible refine rBlk ?_)
      refine' reg_all hF ?_ mixed (by kernel_rfl) ?_
      rotate_left
      · repeat (first
            | exact Line.nil
            | (refine' Line.cons rfl (.no rfl rfl rfl rfl rfl rfl) ?_; rotate_left)
            | ((first | refine' Line.cons rfl (.run rfl rfl ?_) ?_ | refine' Line.cons rfl (.yes rfl rfl rfl rfl ?_) ?_)
               any_goals (first | exact cMove rfl rfl | exact cAssign rfl rfl | exact cNot rfl rfl | exact OpOk.b (c := true) (cGeq rfl rfl rfl) (decide_eq_true h1) | exact OpOk.b (c := false) (cLeq rfl rfl rfl) (decide_eq_false h2) | exact cPickT rfl rfl rfl | exact cPickF rfl rfl rfl | exact cLss rfl rfl rfl | exact cLeq rfl rfl rfl | exact cGtr rfl rfl rfl | exact cGeq rfl rfl rfl | exact cEql rfl rfl rfl | exact cNeq rfl rfl rfl | exact cExtract rfl rfl rfl)
               rotate_left))
      intro a w2 hF hb hN
      have hBs := hB.size
      replace hB := hB.trans (hb.mono hB.size)
      dsimp only [ext, Option.getD] at hF
      repeat (first | with_reducible refine wp_seq ?_ | with_reducible refine nThen ?_ | with_reducible refine nBlk ?_ | with_reducible refine wp_skip ?_ | with_reducible refine wp_block ?_ | with_reducible refine wp_exit ?_ | with_reducible refine xThen ?_ | with_reducible refine xHere ?_ | with_reducible refine xFar (by decide) ?_ | with_reducible refine wp_ret ?_ | with_reducible refine rThen ?_ | with_reducible refine rBlk ?_)
      refine ret1 hF rfl rfl fun z hz => ?_
      refine ⟨z, rfl, ?_, hB⟩
      rw [show goodN n = false from decide_eq_false (fun h => h2 h.2.1)]
      exact hz
  · refine enter_ty 14 [Ty.ex (.int .i64 n)] Tryd.func13 rfl (by kernel_rfl) ⟨hv, trivial⟩ fun a hF => ?_
    have hB := Below.refl w.heap.size w
    repeat (first | with_reducible refine wp_seq ?_ | with_reducible refine nThen ?_ | with_reducible refine nBlk ?_ | with_reducible refine wp_skip ?_ | with_reducible refine wp_block ?_ | with_reducible refine wp_exit ?_ | with_reducible refine xThen ?_ | with_reducible refine xHere ?_ | with_reducible refine xFar (by decide) ?_ | with_reducible refine wp_ret ?_ | with_reducible refine rThen ?_ | with_reducible refine rBlk ?_)
    refine' reg_all hF ?_ mixed (by kernel_rfl) ?_
    rotate_left
    · repeat (first
          | exact Line.nil
          | (refine' Line.cons rfl (.no rfl rfl rfl rfl rfl rfl) ?_; rotate_left)
          | ((first | refine' Line.cons rfl (.run rfl rfl ?_) ?_ | refine' Line.cons rfl (.yes rfl rfl rfl rfl ?_) ?_)
             any_goals (first | exact cMove rfl rfl | exact cAssign rfl rfl | exact cNot rfl rfl | exact cPickT rfl rfl rfl | exact cPickF rfl rfl rfl | exact cLss rfl rfl rfl | exact cLeq rfl rfl rfl | exact cGtr rfl rfl rfl | exact cGeq rfl rfl rfl | exact cEql rfl rfl rfl | exact cNeq rfl rfl rfl | exact cExtract rfl rfl rfl)
             rotate_left))
    intro a w1 hF hb hN
    have hBs := hB.size
    replace hB := hB.trans (hb.mono hB.size)
    dsimp only [ext, Option.getD] at hF
    repeat (first | with_reducible refine wp_seq ?_ | with_reducible refine nThen ?_ | with_reducible refine nBlk ?_ | with_reducible refine wp_skip ?_ | with_reducible refine wp_block ?_ | with_reducible refine wp_exit ?_ | with_reducible refine xThen ?_ | with_reducible refine xHere ?_ | with_reducible refine xFar (by decide) ?_ | with_reducible refine wp_ret ?_ | with_reducible refine rThen ?_ | with_reducible refine rBlk ?_)
    refine' reg_all hF ?_ mixed (by kernel_rfl) ?_
    rotate_left
    · repeat (first
          | exact Line.nil
          | (refine' Line.cons rfl (.no rfl rfl rfl rfl rfl rfl) ?_; rotate_left)
          | ((first | refine' Line.cons rfl (.run rfl rfl ?_) ?_ | refine' Line.cons rfl (.yes rfl rfl rfl rfl ?_) ?_)
             any_goals (first | exact cMove rfl rfl | exact cAssign rfl rfl | exact cNot rfl rfl | exact OpOk.b (c := false) (cGeq rfl rfl rfl) (decide_eq_false h1) | exact cPickT rfl rfl rfl | exact cPickF rfl rfl rfl | exact cLss rfl rfl rfl | exact cLeq rfl rfl rfl | exact cGtr rfl rfl rfl | exact cGeq rfl rfl rfl | exact cEql rfl rfl rfl | exact cNeq rfl rfl rfl | exact cExtract rfl rfl rfl)
             rotate_left))
    intro a w2 hF hb hN
    have hBs := hB.size
    replace hB := hB.trans (hb.mono hB.size)
    dsimp only [ext, Option.getD] at hF
    repeat (first | with_reducible refine wp_seq ?_ | with_reducible refine nThen ?_ | with_reducible refine nBlk ?_ | with_reducible refine wp_skip ?_ | with_reducible refine wp_block ?_ | with_reducible refine wp_exit ?_ | with_reducible refine xThen ?_ | with_reducible refine xHere ?_ | with_reducible refine xFar (by decide) ?_ | with_reducible refine wp_ret ?_ | with_reducible refine rThen ?_ | with_reducible refine rBlk ?_)
    refine ret1 hF rfl rfl fun z hz => ?_
    refine ⟨z, rfl, ?_, hB⟩
    rw [show goodN n = false from decide_eq_false (fun h => h1 h.1)]
    exact hz
set_option maxRecDepth 100000 in
theorem goodCells_ty (n : Int) : Fn1 Tryd.prog 14 (Ty.ex (.int .i64 n)) (Ty.ex (.bool (goodN n))) := by
  refine ⟨fun args w => by kernel_rfl, fun w v hv => ?_⟩
  by_cases h1 : 3 ≤ n
  · by_cases h2 : n ≤ 1024
    · refine enter_ty 14 [Ty.ex (.int .i64 n)] Tryd.func14 rfl (by kernel_rfl) ⟨hv, trivial⟩ fun a hF => ?_
      have hB := Below.refl w.heap.size w
      repeat (first | with_reducible refine wp_seq ?_ | with_reducible refine nThen ?_ | with_reducible refine nBlk ?_ | with_reducible refine wp_skip ?_ | with_reducible refine wp_block ?_ | with_reducible refine wp_exit ?_ | with_reducible refine xThen ?_ | with_reducible refine xHere ?_ | with_reducible refine xFar (by decide) ?_ | with_reducible refine wp_ret ?_ | with_reducible refine rThen ?_ | with_reducible refine rBlk ?_)
      refine' reg_all hF ?_ mixed (by kernel_rfl) ?_
      rotate_left
      · repeat (first
            | exact Line.nil
            | (refine' Line.cons rfl (.no rfl rfl rfl rfl rfl rfl) ?_; rotate_left)
            | ((first | refine' Line.cons rfl (.run rfl rfl ?_) ?_ | refine' Line.cons rfl (.yes rfl rfl rfl rfl ?_) ?_)
               any_goals (first | exact cMove rfl rfl | exact cAssign rfl rfl | exact cNot rfl rfl | exact cPickT rfl rfl rfl | exact cPickF rfl rfl rfl | exact cLss rfl rfl rfl | exact cLeq rfl rfl rfl | exact cGtr rfl rfl rfl | exact cGeq rfl rfl rfl | exact cEql rfl rfl rfl | exact cNeq rfl rfl rfl | exact cExtract rfl rfl rfl)
               rotate_left))
      intro a w1 hF hb hN
      have hBs := hB.size
      replace hB := hB.trans (hb.mono hB.size)
      dsimp only [ext, Option.getD] at hF
      repeat (first | with_reducible refine wp_seq ?_ | with_reducible refine nThen ?_ | with_reducible refine nBlk ?_ | with_reducible refine wp_skip ?_ | with_reducible refine wp_block ?_ | with_reducible refine wp_exit ?_ | with_reducible refine xThen ?_ | with_reducible refine xHere ?_ | with_reducible refine xFar (by decide) ?_ | with_reducible refine wp_ret ?_ | with_reducible refine rThen ?_ | with_reducible refine rBlk ?_)
      refine' reg_all hF ?_ mixed (by kernel_rfl) ?_
      rotate_left
      · repeat (first
            | exact Line.nil
            | (refine' Line.cons rfl (.no rfl rfl rfl rfl rfl rfl) ?_; rotate_left)
            | ((first | refine' Line.cons rfl (.run rfl rfl ?_) ?_ | refine' Line.cons rfl (.yes rfl rfl rfl rfl ?_) ?_)
               any_goals (first | exact cMove rfl rfl | exact cAssign rfl rfl | exact cNot rfl rfl | exact OpOk.b (c := true) (cGeq rfl rfl rfl) (decide_eq_true h1) | exact OpOk.b (c := true) (cLeq rfl rfl rfl) (decide_eq_true h2) | exact cRemI rfl rfl rfl three_ne rfl | exact cPickT rfl rfl rfl | exact cPickF rfl rfl rfl | exact cLss rfl rfl rfl | exact cLeq rfl rfl rfl | exact cGtr rfl rfl rfl | exact cGeq rfl rfl rfl | exact cEql rfl rfl rfl | exact cNeq rfl rfl rfl | exact cExtract rfl rfl rfl)
               rotate_left))
      intro a w2 hF hb hN
      have hBs := hB.size
      replace hB := hB.trans (hb.mono hB.size)
      dsimp only [ext, Option.getD] at hF
      repeat (first | with_reducible refine wp_seq ?_ | with_reducible refine nThen ?_ | with_reducible refine nBlk ?_ | with_reducible refine wp_skip ?_ | with_reducible refine wp_block ?_ | with_reducible refine wp_exit ?_ | with_reducible refine xThen ?_ | with_reducible refine xHere ?_ | with_reducible refine xFar (by decide) ?_ | with_reducible refine wp_ret ?_ | with_reducible refine rThen ?_ | with_reducible refine rBlk ?_)
      refine ret1 hF rfl rfl fun z hz => ?_
      refine ⟨z, rfl, ?_, hB⟩
      have hz : z = .bool (decide (n.tmod 3 = 0)) := hz
      rw [hz]
      show _ = _
      congr 1
      unfold goodN
      rw [Bool.eq_iff_iff, decide_eq_true_eq, decide_eq_true_eq]
      have := Int.tmod_eq_emod_of_nonneg (a := n) (b := 3) (by omega)
      omega
    · refine enter_ty 14 [Ty.ex (.int .i64 n)] Tryd.func14 rfl (by kernel_rfl) ⟨hv, trivial⟩ fun a hF => ?_
      have hB := Below.refl w.heap.size w
      repeat (first | with_reducible refine wp_seq ?_ | with_reducible refine nThen ?_ | with_reducible refine nBlk ?_ | with_reducible refine wp_skip ?_ | with_reducible refine wp_block ?_ | with_reducible refine wp_exit ?_ | with_reducible refine xThen ?_ | with_reducible refine xHere ?_ | with_reducible refine xFar (by decide) ?_ | with_reducible refine wp_ret ?_ | with_reducible refine rThen ?_ | with_reducible refine rBlk ?_)
      refine' reg_all hF ?_ mixed (by kernel_rfl) ?_
      rotate_left
      · repeat (first
            | exact Line.nil
            | (refine' Line.cons rfl (.no rfl rfl rfl rfl rfl rfl) ?_; rotate_left)
            | ((first | refine' Line.cons rfl (.run rfl rfl ?_) ?_ | refine' Line.cons rfl (.yes rfl rfl rfl rfl ?_) ?_)
               any_goals (first | exact cMove rfl rfl | exact cAssign rfl rfl | exact cNot rfl rfl | exact cPickT rfl rfl rfl | exact cPickF rfl rfl rfl | exact cLss rfl rfl rfl | exact cLeq rfl rfl rfl | exact cGtr rfl rfl rfl | exact cGeq rfl rfl rfl | exact cEql rfl rfl rfl | exact cNeq rfl rfl rfl | exact cExtract rfl rfl rfl)
               rotate_left))
      intro a w1 hF hb hN
      have hBs := hB.size
      replace hB := hB.trans (hb.mono hB.size)
      dsimp only [ext, Option.getD] at hF
      repeat (first | with_reducible refine wp_seq ?_ | with_reducible refine nThen ?_ | with_reducible refine nBlk ?_ | with_reducible refine wp_skip ?_ | with_reducible refine wp_block ?_ | with_reducible refine wp_exit ?_ | with_reducible refine xThen ?_ | with_reducible refine xHere ?_ | with_reducible refine xFar (by decide) ?_ | with_reducible refine wp_ret ?_ | with_reducible refine rThen ?_ | with_reducible refine rBlk ?_)
      refine' reg_all hF ?_ mixed (by kernel_rfl) ?_
      rotate_left
      · repeat (first
            | exact Line.nil
            | (refine' Line.cons rfl (.no rfl rfl rfl rfl rfl rfl) ?_; rotate_left)
            | ((first | refine' Line.cons rfl (.run rfl rfl ?_) ?_ | refine' Line.cons rfl (.yes rfl rfl rfl rfl ?_) ?_)
               any_goals (first | exact cMove rfl rfl | exact cAssign rfl rfl | exact cNot rfl rfl | exact OpOk.b (c := true) (cGeq rfl rfl rfl) (decide_eq_true h1) | exact OpOk.b (c := false) (cLeq rfl rfl rfl) (decide_eq_false h2) | exact cPickT rfl rfl rfl | exact cPickF rfl rfl rfl | exact cLss rfl rfl rfl | exact cLeq rfl rfl rfl | exact cGtr rfl rfl rfl | exact cGeq rfl rfl rfl | exact cEql rfl rfl rfl | exact cNeq rfl rfl rfl | exact cExtract rfl rfl rfl)
               rotate_left))
      intro a w2 hF hb hN
      have hBs := hB.size
      replace hB := hB.trans (hb.mono hB.size)
      dsimp only [ext, Option.getD] at hF
      repeat (first | with_reducible refine wp_seq ?_ | with_reducible refine nThen ?_ | with_reducible refine nBlk ?_ | with_reducible refine wp_skip ?_ | with_reducible refine wp_block ?_ | with_reducible refine wp_exit ?_ | with_reducible refine xThen ?_ | with_reducible refine xHere ?_ | with_reducible refine xFar (by decide) ?_ | with_reducible refine wp_ret ?_ | with_reducible refine rThen ?_ | with_reducible refine rBlk ?_)
      refine ret1 hF rfl rfl fun z hz => ?_
      refine ⟨z, rfl, ?_, hB⟩
      rw [show goodN n = false from decide_eq_false (fun h => h2 h.2.1)]
      exact hz
  · refine enter_ty 14 [Ty.ex (.int .i64 n)] Tryd.func14 rfl (by kernel_rfl) ⟨hv, trivial⟩ fun a hF => ?_
    have hB := Below.refl w.heap.size w
    repeat (first | with_reducible refine wp_seq ?_ | with_reducible refine nThen ?_ | with_reducible refine nBlk ?_ | with_reducible refine wp_skip ?_ | with_reducible refine wp_block ?_ | with_reducible refine wp_exit ?_ | with_reducible refine xThen ?_ | with_reducible refine xHere ?_ | with_reducible refine xFar (by decide) ?_ | with_reducible refine wp_ret ?_ | with_reducible refine rThen ?_ | with_reducible refine rBlk ?_)
    refine' reg_all hF ?_ mixed (by kernel_rfl) ?_
    rotate_left
    · repeat (first
          | exact Line.nil
          | (refine' Line.cons rfl (.no rfl rfl rfl rfl rfl rfl) ?_; rotate_left)
          | ((first | refine' Line.cons rfl (.run rfl rfl ?_) ?_ | refine' Line.cons rfl (.yes rfl rfl rfl rfl ?_) ?_)
             any_goals (first | exact cMove rfl rfl | exact cAssign rfl rfl | exact cNot rfl rfl | exact cPickT rfl rfl rfl | exact cPickF rfl rfl rfl | exact cLss rfl rfl rfl | exact cLeq rfl rfl rfl | exact cGtr rfl rfl rfl | exact cGeq rfl rfl rfl | exact cEql rfl rfl rfl | exact cNeq rfl rfl rfl | exact cExtract rfl rfl rfl)
             rotate_left))
    intro a w1 hF hb hN
    have hBs := hB.size
    replace hB := hB.trans (hb.mono hB.size)
    dsimp only [ext, Option.getD] at hF
    repeat (first | with_reducible refine wp_seq ?_ | with_reducible refine nThen ?_ | with_reducible refine nBlk ?_ | with_reducible refine wp_skip ?_ | with_reducible refine wp_block ?_ | with_reducible refine wp_exit ?_ | with_reducible refine xThen ?_ | with_reducible refine xHere ?_ | with_reducible refine xFar (by decide) ?_ | with_reducible refine wp_ret ?_ | with_reducible refine rThen ?_ | with_reducible refine rBlk ?_)
    refine' reg_all hF ?_ mixed (by kernel_rfl) ?_
    rotate_left
    · repeat (first
          | exact Line.nil
          | (refine' Line.cons rfl (.no rfl rfl rfl rfl rfl rfl) ?_; rotate_left)
          | ((first | refine' Line.cons rfl (.run rfl rfl ?_) ?_ | refine' Line.cons rfl (.yes rfl rfl rfl rfl ?_) ?_)
             any_goals (first | exact cMove rfl rfl | exact cAssign rfl rfl | exact cNot rfl rfl | exact OpOk.b (c := false) (cGeq rfl rfl rfl) (decide_eq_false h1) | exact cPickT rfl rfl rfl | exact cPickF rfl rfl rfl | exact cLss rfl rfl rfl | exact cLeq rfl rfl rfl | exact cGtr rfl rfl rfl | exact cGeq rfl rfl rfl | exact cEql rfl rfl rfl | exact cNeq rfl rfl rfl | exact cExtract rfl rfl rfl)
             rotate_left))
    intro a w2 hF hb hN
    have hBs := hB.size
    replace hB := hB.trans (hb.mono hB.size)
    dsimp only [ext, Option.getD] at hF
    repeat (first | with_reducible refine wp_seq ?_ | with_reducible refine nThen ?_ | with_reducible refine nBlk ?_ | with_reducible refine wp_skip ?_ | with_reducible refine wp_block ?_ | with_reducible refine wp_exit ?_ | with_reducible refine xThen ?_ | with_reducible refine xHere ?_ | with_reducible refine xFar (by decide) ?_ | with_reducible refine wp_ret ?_ | with_reducible refine rThen ?_ | with_reducible refine rBlk ?_)
    refine ret1 hF rfl rfl fun z hz => ?_
    refine ⟨z, rfl, ?_, hB⟩
    rw [show goodN n = false from decide_eq_false (fun h => h1 h.1)]
    exact hz

theorem sm_getD (x : Sm) (j : Nat) : x.l.getD j 0 < 256 := by
  by_cases h : j < x.l.length
  · simp only [List.getD, List.getElem?_eq_getElem h, Option.getD_some]
    exact x.lt _ (List.getElem_mem h)
  · simp [List.getD, List.getElem?_eq_none (by omega : x.l.length ≤ j)]
theorem enc_drop {x : Sm} {j : Nat} (h : j < 32) : x.enc.drop j = bv (x.l.getD j 0) :: x.enc.drop (j + 1) := by
  have hl : j < x.enc.length := by rw [enc_len]; exact h
  have hl2 : j < x.l.length := by rw [x.len]; exact h
  rw [List.drop_eq_getElem_cons hl]
  congr 1
  simp [Sm.enc, List.getD, List.getElem?_eq_getElem hl2]

set_option maxRecDepth 100000 in
set_option maxHeartbeats 1000000 in
theorem sword_ty (x : Sm) (i : Nat) (hi : i < 4) : Fn2 Tryd.prog 31 (Ty.ex (.agg (u8s x.l))) (Ty.ex (.int .i64 (i : Int))) (Ty.ex (.int .u64 (wordF x.l i 8 : Int))) := by
  refine ⟨fun args w => by kernel_rfl, fun w v u hv hu => ?_⟩
  refine enter_ty 28 [Ty.ex (.agg (u8s x.l)), Ty.ex (.int .i64 (i : Int))] Tryd.func31 rfl (by kernel_rfl) ⟨hv, hu, trivial⟩ fun a hF => ?_
  have hB := Below.refl w.heap.size w
  repeat (first | with_reducible refine wp_seq ?_ | with_reducible refine nThen ?_ | with_reducible refine nBlk ?_ | with_reducible refine wp_skip ?_ | with_reducible refine wp_block ?_ | with_reducible refine wp_exit ?_ | with_reducible refine xThen ?_ | with_reducible refine xHere ?_ | with_reducible refine xFar (by decide) ?_ | with_reducible refine wp_ret ?_ | with_reducible refine rThen ?_ | with_reducible refine rBlk ?_)
  refine' reg_all hF ?_ mixed (by kernel_rfl) ?_
  rotate_left
  · repeat (first
        | exact Line.nil
        | (refine' Line.cons rfl (.no rfl rfl rfl rfl rfl rfl) ?_; rotate_left)
        | ((first | refine' Line.cons rfl (.run rfl rfl ?_) ?_ | refine' Line.cons rfl (.yes rfl rfl rfl rfl ?_) ?_)
           any_goals (first | exact cMove rfl rfl | exact cAssign rfl rfl | exact cNot rfl rfl | exact cBoxSum rfl rfl | exact cPickT rfl rfl rfl | exact cPickF rfl rfl rfl | exact cLss rfl rfl rfl | exact cLeq rfl rfl rfl | exact cGtr rfl rfl rfl | exact cGeq rfl rfl rfl | exact cEql rfl rfl rfl | exact cNeq rfl rfl rfl | exact cExtract rfl rfl rfl)
           rotate_left))
  intro a w1 hF hb hN
  have hBs := hB.size
  replace hB := hB.trans (hb.mono hB.size)
  dsimp only [ext, Option.getD] at hF
  repeat (first | with_reducible refine wp_seq ?_ | with_reducible refine nThen ?_ | with_reducible refine nBlk ?_ | with_reducible refine wp_skip ?_ | with_reducible refine wp_block ?_ | with_reducible refine wp_exit ?_ | with_reducible refine xThen ?_ | with_reducible refine xHere ?_ | with_reducible refine xFar (by decide) ?_ | with_reducible refine wp_ret ?_ | with_reducible refine rThen ?_ | with_reducible refine rBlk ?_)
  refine' reg_all hF ?_ mixed (by kernel_rfl) ?_
  rotate_left
  · repeat (first
        | exact Line.nil
        | (refine' Line.cons rfl (.no rfl rfl rfl rfl rfl rfl) ?_; rotate_left)
        | ((first | refine' Line.cons rfl (.run rfl rfl ?_) ?_ | refine' Line.cons rfl (.yes rfl rfl rfl rfl ?_) ?_)
           any_goals (first | exact cMove rfl rfl | exact cAssign rfl rfl | exact cNot rfl rfl | exact OpOk.b (c := false) (cLss rfl rfl rfl) (decide_eq_false (by omega)) | exact OpOk.b (c := false) (cGeq rfl rfl rfl) (decide_eq_false (by omega)) | exact cPickT rfl rfl rfl | exact cPickF rfl rfl rfl | exact cLss rfl rfl rfl | exact cLeq rfl rfl rfl | exact cGtr rfl rfl rfl | exact cGeq rfl rfl rfl | exact cEql rfl rfl rfl | exact cNeq rfl rfl rfl | exact cExtract rfl rfl rfl)
           rotate_left))
  intro a w2 hF hb hN
  have hBs := hB.size
  replace hB := hB.trans (hb.mono hB.size)
  dsimp only [ext, Option.getD] at hF
  repeat (first | with_reducible refine wp_seq ?_ | with_reducible refine nThen ?_ | with_reducible refine nBlk ?_ | with_reducible refine wp_skip ?_ | with_reducible refine wp_block ?_ | with_reducible refine wp_exit ?_ | with_reducible refine xThen ?_ | with_reducible refine xHere ?_ | with_reducible refine xFar (by decide) ?_ | with_reducible refine wp_ret ?_ | with_reducible refine rThen ?_ | with_reducible refine rBlk ?_)
  refine cond_f hF rfl ?_
  repeat (first | with_reducible refine wp_seq ?_ | with_reducible refine nThen ?_ | with_reducible refine nBlk ?_ | with_reducible refine wp_skip ?_ | with_reducible refine wp_block ?_ | with_reducible refine wp_exit ?_ | with_reducible refine xThen ?_ | with_reducible refine xHere ?_ | with_reducible refine xFar (by decide) ?_ | with_reducible refine wp_ret ?_ | with_reducible refine rThen ?_ | with_reducible refine rBlk ?_)
  refine' reg_all hF ?_ mixed (by kernel_rfl) ?_
  rotate_left
  · repeat (first
        | exact Line.nil
        | (refine' Line.cons rfl (.no rfl rfl rfl rfl rfl rfl) ?_; rotate_left)
        | ((first | refine' Line.cons rfl (.run rfl rfl ?_) ?_ | refine' Line.cons rfl (.yes rfl rfl rfl rfl ?_) ?_)
           any_goals (first | exact cMove rfl rfl | exact cAssign rfl rfl | exact cNot rfl rfl | exact cPickT rfl rfl rfl | exact cPickF rfl rfl rfl | exact cLss rfl rfl rfl | exact cLeq rfl rfl rfl | exact cGtr rfl rfl rfl | exact cGeq rfl rfl rfl | exact cEql rfl rfl rfl | exact cNeq rfl rfl rfl | exact cExtract rfl rfl rfl)
           rotate_left))
  intro a w3 hF hb hN
  have hBs := hB.size
  replace hB := hB.trans (hb.mono hB.size)
  dsimp only [ext, Option.getD] at hF
  repeat (first | with_reducible refine wp_seq ?_ | with_reducible refine nThen ?_ | with_reducible refine nBlk ?_ | with_reducible refine wp_skip ?_ | with_reducible refine wp_block ?_ | with_reducible refine wp_exit ?_ | with_reducible refine xThen ?_ | with_reducible refine xHere ?_ | with_reducible refine xFar (by decide) ?_ | with_reducible refine wp_ret ?_ | with_reducible refine rThen ?_ | with_reducible refine rBlk ?_)
  refine' reg_all hF ?_ mixed (by kernel_rfl) ?_
  rotate_left
  · repeat (first
        | exact Line.nil
        | (refine' Line.cons rfl (.no rfl rfl rfl rfl rfl rfl) ?_; rotate_left)
        | ((first | refine' Line.cons rfl (.run rfl rfl ?_) ?_ | refine' Line.cons rfl (.yes rfl rfl rfl rfl ?_) ?_)
           any_goals (first | exact cMove rfl rfl | exact cAssign rfl rfl | exact cNot rfl rfl | exact cPickT rfl rfl rfl | exact cPickF rfl rfl rfl | exact cLss rfl rfl rfl | exact cLeq rfl rfl rfl | exact cGtr rfl rfl rfl | exact cGeq rfl rfl rfl | exact cEql rfl rfl rfl | exact cNeq rfl rfl rfl | exact cExtract rfl rfl rfl)
           rotate_left))
  intro a w4 hF hb hN
  have hBs := hB.size
  replace hB := hB.trans (hb.mono hB.size)
  dsimp only [ext, Option.getD] at hF
  repeat (first | with_reducible refine wp_seq ?_ | with_reducible refine nThen ?_ | with_reducible refine nBlk ?_ | with_reducible refine wp_skip ?_ | with_reducible refine wp_block ?_ | with_reducible refine wp_exit ?_ | with_reducible refine xThen ?_ | with_reducible refine xHere ?_ | with_reducible refine xFar (by decide) ?_ | with_reducible refine wp_ret ?_ | with_reducible refine rThen ?_ | with_reducible refine rBlk ?_)
  refine loop_ty (fun m a wr => ∃ t : Nat, t + m = 8 ∧ Fr 28 [(2, Ty.at_ 27 x.enc), (1, Ty.ex (.int .i64 (i : Int))), (5, Ty.ex (.int .u64 (wordF x.l i t : Int))), (6, Ty.ex (.int .i64 (7 - (t : Int))))] a wr ∧ Below w.heap.size w wr) 8 ?_ ?_
  · exact ⟨0, by omega, hF.keep [2, 1, 5, 6], hB⟩
  clear hF hB
  rintro m a wr ⟨t, ht, hF, hB⟩
  repeat (first | with_reducible refine wp_seq ?_ | with_reducible refine nThen ?_ | with_reducible refine nBlk ?_ | with_reducible refine wp_skip ?_ | with_reducible refine wp_block ?_ | with_reducible refine wp_exit ?_ | with_reducible refine xThen ?_ | with_reducible refine xHere ?_ | with_reducible refine xFar (by decide) ?_ | with_reducible refine wp_ret ?_ | with_reducible refine rThen ?_ | with_reducible refine rBlk ?_)
  refine' reg_all hF ?_ mixed (by kernel_rfl) ?_
  rotate_left
  · repeat (first
        | exact Line.nil
        | (refine' Line.cons rfl (.no rfl rfl rfl rfl rfl rfl) ?_; rotate_left)
        | ((first | refine' Line.cons rfl (.run rfl rfl ?_) ?_ | refine' Line.cons rfl (.yes rfl rfl rfl rfl ?_) ?_)
           any_goals (first | exact cMove rfl rfl | exact cAssign rfl rfl | exact cNot rfl rfl | exact cPickT rfl rfl rfl | exact cPickF rfl rfl rfl | exact cLss rfl rfl rfl | exact cLeq rfl rfl rfl | exact cGtr rfl rfl rfl | exact cGeq rfl rfl rfl | exact cEql rfl rfl rfl | exact cNeq rfl rfl rfl | exact cExtract rfl rfl rfl)
           rotate_left))
  intro a w5 hF hb hN
  have hBs := hB.size
  replace hB := hB.trans (hb.mono hB.size)
  dsimp only [ext, Option.getD] at hF
  repeat (first | with_reducible refine wp_seq ?_ | with_reducible refine nThen ?_ | with_reducible refine nBlk ?_ | with_reducible refine wp_skip ?_ | with_reducible refine wp_block ?_ | with_reducible refine wp_exit ?_ | with_reducible refine xThen ?_ | with_reducible refine xHere ?_ | with_reducible refine xFar (by decide) ?_ | with_reducible refine wp_ret ?_ | with_reducible refine rThen ?_ | with_reducible refine rBlk ?_)
  refine cond_ty hF rfl (fun hlt => ?_) (fun hge => ?_)
  · have hlt : t < 8 := by have := of_decide_eq_true hlt; omega
    have hw := wordF_lt x.l i (sm_getD x) t
    have hw8 : wordF x.l i t < 72057594037927936 := Nat.lt_of_lt_of_le hw (Nat.le_trans (Nat.pow_le_pow_right (by decide) (show t ≤ 7 by omega)) (by decide))
    have hb8 := sm_getD x (8 * i + (7 - t))
    have hor := or_byte (wordF x.l i t) (x.l.getD (8 * i + (7 - t)) 0) hw8 hb8
    have hnext : wordF x.l i (t + 1) = wordF x.l i t * 256 + x.l.getD (8 * i + (7 - t)) 0 := rfl
    have hdr := enc_drop (x := x) (j := 8 * i + (7 - t)) (by omega)
    repeat (first | with_reducible refine wp_seq ?_ | with_reducible refine nThen ?_ | with_reducible refine nBlk ?_ | with_reducible refine wp_skip ?_ | with_reducible refine wp_block ?_ | with_reducible refine wp_exit ?_ | with_reducible refine xThen ?_ | with_reducible refine xHere ?_ | with_reducible refine xFar (by decide) ?_ | with_reducible refine wp_ret ?_ | with_reducible refine rThen ?_ | with_reducible refine rBlk ?_)
    generalize wordF x.l i t = W1 at *
    generalize hW2 : wordF x.l i (t + 1) = W2 at *
    generalize x.l.getD (8 * i + (7 - t)) 0 = B at *
    refine' reg_all hF ?_ mixed (by kernel_rfl) ?_
    rotate_left
    · repeat (first
          | exact Line.nil
          | (refine' Line.cons rfl (.no rfl rfl rfl rfl rfl rfl) ?_; rotate_left)
          | ((first | refine' Line.cons rfl (.run rfl rfl ?_) ?_ | refine' Line.cons rfl (.yes rfl rfl rfl rfl ?_) ?_)
             any_goals (first | exact cMove rfl rfl | exact cAssign rfl rfl | exact cNot rfl rfl | exact cShl (r := ((W1 : Int) * 256)) rfl rfl rfl (by decide) (by simp [IntKind.wrap, IntKind.bits, IntKind.signed]; omega) | exact cMul (r := (8 * (i : Int))) rfl rfl rfl (by omega) | exact cAdd (r := ((8 * i + (7 - t) : Nat) : Int)) rfl rfl rfl (by omega) | exact cIndexArr (k := 8 * i + (7 - t)) rfl (.t rfl) rfl Tryd.underlying27 sizeU (by omega) | exact cLoad1 (u := bv B) rfl (Has.c (.t rfl) (fun W v h => hdr ▸ h)) (pts_at _ _) Tryd.underlying5 rfl | exact cConvR (r := (B : Int)) rfl rfl Tryd.underlying5 Tryd.underlying22 (by simp [IntKind.wrap, IntKind.bits, IntKind.signed]; omega) | exact cOr rfl rfl rfl hor | exact cPickT rfl rfl rfl | exact cPickF rfl rfl rfl | exact cLss rfl rfl rfl | exact cLeq rfl rfl rfl | exact cGtr rfl rfl rfl | exact cGeq rfl rfl rfl | exact cEql rfl rfl rfl | exact cNeq rfl rfl rfl | exact cExtract rfl rfl rfl)
             rotate_left))
    intro a w6 hF hb hN
    have hBs := hB.size
    replace hB := hB.trans (hb.mono hB.size)
    dsimp only [ext, Option.getD] at hF
    repeat (first | with_reducible refine wp_seq ?_ | with_reducible refine nThen ?_ | with_reducible refine nBlk ?_ | with_reducible refine wp_skip ?_ | with_reducible refine wp_block ?_ | with_reducible refine wp_exit ?_ | with_reducible refine xThen ?_ | with_reducible refine xHere ?_ | with_reducible refine xFar (by decide) ?_ | with_reducible refine wp_ret ?_ | with_reducible refine rThen ?_ | with_reducible refine rBlk ?_)
    refine' reg_all hF ?_ mixed (by kernel_rfl) ?_
    rotate_left
    · repeat (first
          | exact Line.nil
          | (refine' Line.cons rfl (.no rfl rfl rfl rfl rfl rfl) ?_; rotate_left)
          | ((first | refine' Line.cons rfl (.run rfl rfl ?_) ?_ | refine' Line.cons rfl (.yes rfl rfl rfl rfl ?_) ?_)
             any_goals (first | exact cMove rfl rfl | exact cAssign rfl rfl | exact cNot rfl rfl | exact cSub (r := (7 - ((t + 1 : Nat) : Int))) rfl rfl rfl (by omega) | exact cPickT rfl rfl rfl | exact cPickF rfl rfl rfl | exact cLss rfl rfl rfl | exact cLeq rfl rfl rfl | exact cGtr rfl rfl rfl | exact cGeq rfl rfl rfl | exact cEql rfl rfl rfl | exact cNeq rfl rfl rfl | exact cExtract rfl rfl rfl)
             rotate_left))
    intro a w7 hF hb hN
    have hBs := hB.size
    replace hB := hB.trans (hb.mono hB.size)
    dsimp only [ext, Option.getD] at hF
    repeat (first | with_reducible refine wp_seq ?_ | with_reducible refine nThen ?_ | with_reducible refine nBlk ?_ | with_reducible refine wp_skip ?_ | with_reducible refine wp_block ?_ | with_reducible refine wp_exit ?_ | with_reducible refine xThen ?_ | with_reducible refine xHere ?_ | with_reducible refine xFar (by decide) ?_ | with_reducible refine wp_ret ?_ | with_reducible refine rThen ?_ | with_reducible refine rBlk ?_)
    refine ⟨m - 1, by omega, t + 1, by omega, ?_, hB⟩
    rw [hW2, hnext]
    exact hF.keep [2, 1, 5, 6]
  · have hge : ¬ t < 8 := by have := of_decide_eq_false hge; omega
    obtain rfl : t = 8 := by omega
    repeat (first | with_reducible refine wp_seq ?_ | with_reducible refine nThen ?_ | with_reducible refine nBlk ?_ | with_reducible refine wp_skip ?_ | with_reducible refine wp_block ?_ | with_reducible refine wp_exit ?_ | with_reducible refine xThen ?_ | with_reducible refine xHere ?_ | with_reducible refine xFar (by decide) ?_ | with_reducible refine wp_ret ?_ | with_reducible refine rThen ?_ | with_reducible refine rBlk ?_)
    refine' reg_all hF ?_ mixed (by kernel_rfl) ?_
    rotate_left
    · repeat (first
          | exact Line.nil
          | (refine' Line.cons rfl (.no rfl rfl rfl rfl rfl rfl) ?_; rotate_left)
          | ((first | refine' Line.cons rfl (.run rfl rfl ?_) ?_ | refine' Line.cons rfl (.yes rfl rfl rfl rfl ?_) ?_)
             any_goals (first | exact cMove rfl rfl | exact cAssign rfl rfl | exact cNot rfl rfl | exact cPickT rfl rfl rfl | exact cPickF rfl rfl rfl | exact cLss rfl rfl rfl | exact cLeq rfl rfl rfl | exact cGtr rfl rfl rfl | exact cGeq rfl rfl rfl | exact cEql rfl rfl rfl | exact cNeq rfl rfl rfl | exact cExtract rfl rfl rfl)
             rotate_left))
    intro a w6 hF hb hN
    have hBs := hB.size
    replace hB := hB.trans (hb.mono hB.size)
    dsimp only [ext, Option.getD] at hF
    repeat (first | with_reducible refine wp_seq ?_ | with_reducible refine nThen ?_ | with_reducible refine nBlk ?_ | with_reducible refine wp_skip ?_ | with_reducible refine wp_block ?_ | with_reducible refine wp_exit ?_ | with_reducible refine xThen ?_ | with_reducible refine xHere ?_ | with_reducible refine xFar (by decide) ?_ | with_reducible refine wp_ret ?_ | with_reducible refine rThen ?_ | with_reducible refine rBlk ?_)
    refine ret1 hF rfl rfl fun z hz => ?_
    exact ⟨z, rfl, hz, hB⟩

set_option maxRecDepth 100000 in
set_option maxHeartbeats 1000000 in
theorem rword_ty (x : Sm) (i : Nat) (hi : i < 4) : Fn2 Tryd.prog 35 (Ty.ex (.agg (u8s x.l))) (Ty.ex (.int .i64 (i : Int))) (Ty.ex (.int .u64 (wordF x.l i 8 : Int))) := by
  refine ⟨fun args w => by kernel_rfl, fun w v u hv hu => ?_⟩
  refine enter_ty 30 [Ty.ex (.agg (u8s x.l)), Ty.ex (.int .i64 (i : Int))] Tryd.func35 rfl (by kernel_rfl) ⟨hv, hu, trivial⟩ fun a hF => ?_
  have hB := Below.refl w.heap.size w
  repeat (first | with_reducible refine wp_seq ?_ | with_reducible refine nThen ?_ | with_reducible refine nBlk ?_ | with_reducible refine wp_skip ?_ | with_reducible refine wp_block ?_ | with_reducible refine wp_exit ?_ | with_reducible refine xThen ?_ | with_reducible refine xHere ?_ | with_reducible refine xFar (by decide) ?_ | with_reducible refine wp_ret ?_ | with_reducible refine rThen ?_ | with_reducible refine rBlk ?_)
  refine' reg_all hF ?_ mixed (by kernel_rfl) ?_
  rotate_left
  · repeat (first
        | exact Line.nil
        | (refine' Line.cons rfl (.no rfl rfl rfl rfl rfl rfl) ?_; rotate_left)
        | ((first | refine' Line.cons rfl (.run rfl rfl ?_) ?_ | refine' Line.cons rfl (.yes rfl rfl rfl rfl ?_) ?_)
           any_goals (first | exact cMove rfl rfl | exact cAssign rfl rfl | exact cNot rfl rfl | exact cBoxSum rfl rfl | exact cPickT rfl rfl rfl | exact cPickF rfl rfl rfl | exact cLss rfl rfl rfl | exact cLeq rfl rfl rfl | exact cGtr rfl rfl rfl | exact cGeq rfl rfl rfl | exact cEql rfl rfl rfl | exact cNeq rfl rfl rfl | exact cExtract rfl rfl rfl)
           rotate_left))
  intro a w1 hF hb hN
  have hBs := hB.size
  replace hB := hB.trans (hb.mono hB.size)
  dsimp only [ext, Option.getD] at hF
  repeat (first | with_reducible refine wp_seq ?_ | with_reducible refine nThen ?_ | with_reducible refine nBlk ?_ | with_reducible refine wp_skip ?_ | with_reducible refine wp_block ?_ | with_reducible refine wp_exit ?_ | with_reducible refine xThen ?_ | with_reducible refine xHere ?_ | with_reducible refine xFar (by decide) ?_ | with_reducible refine wp_ret ?_ | with_reducible refine rThen ?_ | with_reducible refine rBlk ?_)
  refine' reg_all hF ?_ mixed (by kernel_rfl) ?_
  rotate_left
  · repeat (first
        | exact Line.nil
        | (refine' Line.cons rfl (.no rfl rfl rfl rfl rfl rfl) ?_; rotate_left)
        | ((first | refine' Line.cons rfl (.run rfl rfl ?_) ?_ | refine' Line.cons rfl (.yes rfl rfl rfl rfl ?_) ?_)
           any_goals (first | exact cMove rfl rfl | exact cAssign rfl rfl | exact cNot rfl rfl | exact cPickT rfl rfl rfl | exact cPickF rfl rfl rfl | exact cLss rfl rfl rfl | exact cLeq rfl rfl rfl | exact cGtr rfl rfl rfl | exact cGeq rfl rfl rfl | exact cEql rfl rfl rfl | exact cNeq rfl rfl rfl | exact cExtract rfl rfl rfl)
           rotate_left))
  intro a w3 hF hb hN
  have hBs := hB.size
  replace hB := hB.trans (hb.mono hB.size)
  dsimp only [ext, Option.getD] at hF
  repeat (first | with_reducible refine wp_seq ?_ | with_reducible refine nThen ?_ | with_reducible refine nBlk ?_ | with_reducible refine wp_skip ?_ | with_reducible refine wp_block ?_ | with_reducible refine wp_exit ?_ | with_reducible refine xThen ?_ | with_reducible refine xHere ?_ | with_reducible refine xFar (by decide) ?_ | with_reducible refine wp_ret ?_ | with_reducible refine rThen ?_ | with_reducible refine rBlk ?_)
  refine' reg_all hF ?_ mixed (by kernel_rfl) ?_
  rotate_left
  · repeat (first
        | exact Line.nil
        | (refine' Line.cons rfl (.no rfl rfl rfl rfl rfl rfl) ?_; rotate_left)
        | ((first | refine' Line.cons rfl (.run rfl rfl ?_) ?_ | refine' Line.cons rfl (.yes rfl rfl rfl rfl ?_) ?_)
           any_goals (first | exact cMove rfl rfl | exact cAssign rfl rfl | exact cNot rfl rfl | exact cPickT rfl rfl rfl | exact cPickF rfl rfl rfl | exact cLss rfl rfl rfl | exact cLeq rfl rfl rfl | exact cGtr rfl rfl rfl | exact cGeq rfl rfl rfl | exact cEql rfl rfl rfl | exact cNeq rfl rfl rfl | exact cExtract rfl rfl rfl)
           rotate_left))
  intro a w4 hF hb hN
  have hBs := hB.size
  replace hB := hB.trans (hb.mono hB.size)
  dsimp only [ext, Option.getD] at hF
  repeat (first | with_reducible refine wp_seq ?_ | with_reducible refine nThen ?_ | with_reducible refine nBlk ?_ | with_reducible refine wp_skip ?_ | with_reducible refine wp_block ?_ | with_reducible refine wp_exit ?_ | with_reducible refine xThen ?_ | with_reducible refine xHere ?_ | with_reducible refine xFar (by decide) ?_ | with_reducible refine wp_ret ?_ | with_reducible refine rThen ?_ | with_reducible refine rBlk ?_)
  refine loop_ty (fun m a wr => ∃ t : Nat, t + m = 8 ∧ Fr 30 [(2, Ty.at_ 32 x.enc), (1, Ty.ex (.int .i64 (i : Int))), (5, Ty.ex (.int .u64 (wordF x.l i t : Int))), (6, Ty.ex (.int .i64 (7 - (t : Int))))] a wr ∧ Below w.heap.size w wr) 8 ?_ ?_
  · exact ⟨0, by omega, hF.keep [2, 1, 5, 6], hB⟩
  clear hF hB
  rintro m a wr ⟨t, ht, hF, hB⟩
  repeat (first | with_reducible refine wp_seq ?_ | with_reducible refine nThen ?_ | with_reducible refine nBlk ?_ | with_reducible refine wp_skip ?_ | with_reducible refine wp_block ?_ | with_reducible refine wp_exit ?_ | with_reducible refine xThen ?_ | with_reducible refine xHere ?_ | with_reducible refine xFar (by decide) ?_ | with_reducible refine wp_ret ?_ | with_reducible refine rThen ?_ | with_reducible refine rBlk ?_)
  by_cases hlt : t < 8
  · refine' reg_all hF ?_ mixed (by kernel_rfl) ?_
    rotate_left
    · repeat (first
          | exact Line.nil
          | (refine' Line.cons rfl (.no rfl rfl rfl rfl rfl rfl) ?_; rotate_left)
          | ((first | refine' Line.cons rfl (.run rfl rfl ?_) ?_ | refine' Line.cons rfl (.yes rfl rfl rfl rfl ?_) ?_)
             any_goals (first | exact cMove rfl rfl | exact cAssign rfl rfl | exact cNot rfl rfl | exact OpOk.b (c := true) (cGeq rfl rfl rfl) (decide_eq_true (by omega)) | exact OpOk.b (c := true) (cLss rfl rfl rfl) (decide_eq_true (by omega)) | exact cPickT rfl rfl rfl | exact cPickF rfl rfl rfl | exact cLss rfl rfl rfl | exact cLeq rfl rfl rfl | exact cGtr rfl rfl rfl | exact cGeq rfl rfl rfl | exact cEql rfl rfl rfl | exact cNeq rfl rfl rfl | exact cExtract rfl rfl rfl)
             rotate_left))
    intro a w5 hF hb hN
    have hBs := hB.size
    replace hB := hB.trans (hb.mono hB.size)
    dsimp only [ext, Option.getD] at hF
    repeat (first | with_reducible refine wp_seq ?_ | with_reducible refine nThen ?_ | with_reducible refine nBlk ?_ | with_reducible refine wp_skip ?_ | with_reducible refine wp_block ?_ | with_reducible refine wp_exit ?_ | with_reducible refine xThen ?_ | with_reducible refine xHere ?_ | with_reducible refine xFar (by decide) ?_ | with_reducible refine wp_ret ?_ | with_reducible refine rThen ?_ | with_reducible refine rBlk ?_)
    refine cond_t hF rfl ?_
    have hw := wordF_lt x.l i (sm_getD x) t
    have hw8 : wordF x.l i t < 72057594037927936 := Nat.lt_of_lt_of_le hw (Nat.le_trans (Nat.pow_le_pow_right (by decide) (show t ≤ 7 by omega)) (by decide))
    have hb8 := sm_getD x (8 * i + (7 - t))
    have hor := or_byte (wordF x.l i t) (x.l.getD (8 * i + (7 - t)) 0) hw8 hb8
    have hnext : wordF x.l i (t + 1) = wordF x.l i t * 256 + x.l.getD (8 * i + (7 - t)) 0 := rfl
    have hdr := enc_drop (x := x) (j := 8 * i + (7 - t)) (by omega)
    repeat (first | with_reducible refine wp_seq ?_ | with_reducible refine nThen ?_ | with_reducible refine nBlk ?_ | with_reducible refine wp_skip ?_ | with_reducible refine wp_block ?_ | with_reducible refine wp_exit ?_ | with_reducible refine xThen ?_ | with_reducible refine xHere ?_ | with_reducible refine xFar (by decide) ?_ | with_reducible refine wp_ret ?_ | with_reducible refine rThen ?_ | with_reducible refine rBlk ?_)
    generalize wordF x.l i t = W1 at *
    generalize hW2 : wordF x.l i (t + 1) = W2 at *
    generalize x.l.getD (8 * i + (7 - t)) 0 = B at *
    refine' reg_all hF ?_ mixed (by kernel_rfl) ?_
    rotate_left
    · repeat (first
          | exact Line.nil
          | (refine' Line.cons rfl (.no rfl rfl rfl rfl rfl rfl) ?_; rotate_left)
          | ((first | refine' Line.cons rfl (.run rfl rfl ?_) ?_ | refine' Line.cons rfl (.yes rfl rfl rfl rfl ?_) ?_)
             any_goals (first | exact cMove rfl rfl | exact cAssign rfl rfl | exact cNot rfl rfl | exact cShl (r := ((W1 : Int) * 256)) rfl rfl rfl (by decide) (by simp [IntKind.wrap, IntKind.bits, IntKind.signed]; omega) | exact cMul (r := (8 * (i : Int))) rfl rfl rfl (by omega) | exact cAdd (r := ((8 * i + (7 - t) : Nat) : Int)) rfl rfl rfl (by omega) | exact cIndexArr (k := 8 * i + (7 - t)) rfl (.t rfl) rfl Tryd.underlying32 sizeU (by omega) | exact cLoad1 (u := bv B) rfl (Has.c (.t rfl) (fun W v h => hdr ▸ h)) (pts_at _ _) Tryd.underlying5 rfl | exact cConvR (r := (B : Int)) rfl rfl Tryd.underlying5 Tryd.underlying22 (by simp [IntKind.wrap, IntKind.bits, IntKind.signed]; omega) | exact cOr rfl rfl rfl hor | exact cPickT rfl rfl rfl | exact cPickF rfl rfl rfl | exact cLss rfl rfl rfl | exact cLeq rfl rfl rfl | exact cGtr rfl rfl rfl | exact cGeq rfl rfl rfl | exact cEql rfl rfl rfl | exact cNeq rfl rfl rfl | exact cExtract rfl rfl rfl)
             rotate_left))
    intro a w6 hF hb hN
    have hBs := hB.size
    replace hB := hB.trans (hb.mono hB.size)
    dsimp only [ext, Option.getD] at hF
    repeat (first | with_reducible refine wp_seq ?_ | with_reducible refine nThen ?_ | with_reducible refine nBlk ?_ | with_reducible refine wp_skip ?_ | with_reducible refine wp_block ?_ | with_reducible refine wp_exit ?_ | with_reducible refine xThen ?_ | with_reducible refine xHere ?_ | with_reducible refine xFar (by decide) ?_ | with_reducible refine wp_ret ?_ | with_reducible refine rThen ?_ | with_reducible refine rBlk ?_)
    refine' reg_all hF ?_ mixed (by kernel_rfl) ?_
    rotate_left
    · repeat (first
          | exact Line.nil
          | (refine' Line.cons rfl (.no rfl rfl rfl rfl rfl rfl) ?_; rotate_left)
          | ((first | refine' Line.cons rfl (.run rfl rfl ?_) ?_ | refine' Line.cons rfl (.yes rfl rfl rfl rfl ?_) ?_)
             any_goals (first | exact cMove rfl rfl | exact cAssign rfl rfl | exact cNot rfl rfl | exact cSub (r := (7 - ((t + 1 : Nat) : Int))) rfl rfl rfl (by omega) | exact cPickT rfl rfl rfl | exact cPickF rfl rfl rfl | exact cLss rfl rfl rfl | exact cLeq rfl rfl rfl | exact cGtr rfl rfl rfl | exact cGeq rfl rfl rfl | exact cEql rfl rfl rfl | exact cNeq rfl rfl rfl | exact cExtract rfl rfl rfl)
             rotate_left))
    intro a w7 hF hb hN
    have hBs := hB.size
    replace hB := hB.trans (hb.mono hB.size)
    dsimp only [ext, Option.getD] at hF
    repeat (first | with_reducible refine wp_seq ?_ | with_reducible refine nThen ?_ | with_reducible refine nBlk ?_ | with_reducible refine wp_skip ?_ | with_reducible refine wp_block ?_ | with_reducible refine wp_exit ?_ | with_reducible refine xThen ?_ | with_reducible refine xHere ?_ | with_reducible refine xFar (by decide) ?_ | with_reducible refine wp_ret ?_ | with_reducible refine rThen ?_ | with_reducible refine rBlk ?_)
    refine ⟨m - 1, by omega, t + 1, by omega, ?_, hB⟩
    rw [hW2, hnext]
    exact hF.keep [2, 1, 5, 6]
  · obtain rfl : t = 8 := by omega
    refine' reg_all hF ?_ mixed (by kernel_rfl) ?_
    rotate_left
    · repeat (first
          | exact Line.nil
          | (refine' Line.cons rfl (.no rfl rfl rfl rfl rfl rfl) ?_; rotate_left)
          | ((first | refine' Line.cons rfl (.run rfl rfl ?_) ?_ | refine' Line.cons rfl (.yes rfl rfl rfl rfl ?_) ?_)
             any_goals (first | exact cMove rfl rfl | exact cAssign rfl rfl | exact cNot rfl rfl | exact OpOk.b (c := false) (cGeq rfl rfl rfl) (decide_eq_false (by omega)) | exact cPickT rfl rfl rfl | exact cPickF rfl rfl rfl | exact cLss rfl rfl rfl | exact cLeq rfl rfl rfl | exact cGtr rfl rfl rfl | exact cGeq rfl rfl rfl | exact cEql rfl rfl rfl | exact cNeq rfl rfl rfl | exact cExtract rfl rfl rfl)
             rotate_left))
    intro a w5 hF hb hN
    have hBs := hB.size
    replace hB := hB.trans (hb.mono hB.size)
    dsimp only [ext, Option.getD] at hF
    repeat (first | with_reducible refine wp_seq ?_ | with_reducible refine nThen ?_ | with_reducible refine nBlk ?_ | with_reducible refine wp_skip ?_ | with_reducible refine wp_block ?_ | with_reducible refine wp_exit ?_ | with_reducible refine xThen ?_ | with_reducible refine xHere ?_ | with_reducible refine xFar (by decide) ?_ | with_reducible refine wp_ret ?_ | with_reducible refine rThen ?_ | with_reducible refine rBlk ?_)
    refine cond_f hF rfl ?_
    repeat (first | with_reducible refine wp_seq ?_ | with_reducible refine nThen ?_ | with_reducible refine nBlk ?_ | with_reducible refine wp_skip ?_ | with_reducible refine wp_block ?_ | with_reducible refine wp_exit ?_ | with_reducible refine xThen ?_ | with_reducible refine xHere ?_ | with_reducible refine xFar (by decide) ?_ | with_reducible refine wp_ret ?_ | with_reducible refine rThen ?_ | with_reducible refine rBlk ?_)
    refine' reg_all hF ?_ mixed (by kernel_rfl) ?_
    rotate_left
    · repeat (first
          | exact Line.nil
          | (refine' Line.cons rfl (.no rfl rfl rfl rfl rfl rfl) ?_; rotate_left)
          | ((first | refine' Line.cons rfl (.run rfl rfl ?_) ?_ | refine' Line.cons rfl (.yes rfl rfl rfl rfl ?_) ?_)
             any_goals (first | exact cMove rfl rfl | exact cAssign rfl rfl | exact cNot rfl rfl | exact cPickT rfl rfl rfl | exact cPickF rfl rfl rfl | exact cLss rfl rfl rfl | exact cLeq rfl rfl rfl | exact cGtr rfl rfl rfl | exact cGeq rfl rfl rfl | exact cEql rfl rfl rfl | exact cNeq rfl rfl rfl | exact cExtract rfl rfl rfl)
             rotate_left))
    intro a w6 hF hb hN
    have hBs := hB.size
    replace hB := hB.trans (hb.mono hB.size)
    dsimp only [ext, Option.getD] at hF
    repeat (first | with_reducible refine wp_seq ?_ | with_reducible refine nThen ?_ | with_reducible refine nBlk ?_ | with_reducible refine wp_skip ?_ | with_reducible refine wp_block ?_ | with_reducible refine wp_exit ?_ | with_reducible refine xThen ?_ | with_reducible refine xHere ?_ | with_reducible refine xFar (by decide) ?_ | with_reducible refine wp_ret ?_ | with_reducible refine rThen ?_ | with_reducible refine rBlk ?_)
    refine ret1 hF rfl rfl fun z hz => ?_
    exact ⟨z, rfl, hz, hB⟩
end Go.Proofs.YtofekkhhminkhaaDoor
