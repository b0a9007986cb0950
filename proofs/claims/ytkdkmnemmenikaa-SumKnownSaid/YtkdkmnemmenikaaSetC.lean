/- Layer 10: the walks of Sum.Cmp, Equal, Good; of the document's own Same, Has, Good. -/
import Derived.Test.YtkdkmnemmenikaaSetA
import Derived.Test.YtkdkmnemmenikaaCmp
import Derived.Test.YtkdkmnemmenikaaR1Cmp
namespace Go.Proofs.Ytkdkmnemmenikaa
open Go.RowKit

theorem compare_ty (x y : Sm) : Fn2 Try.prog 16 (Ty.rd 32 x.enc) (Ty.rd 32 y.enc) (Ty.ex (.int .i64 (cmpL x.l y.l))) :=
  ⟨fun args w => by kernel_rfl, fun w v u ⟨A, c, h1, h2, h3, h4⟩ ⟨B, d, k1, k2, k3, k4⟩ => by
    subst h1 k1
    exact Ret.of_eq ((Compare_any A B 32 32 c d x.l y.l w x.len y.len h4 k4 h3 k3 x.lt y.lt).mono fun _ _ ⟨a, b⟩ => ⟨a, b.symm⟩)⟩
set_option maxRecDepth 100000 in
theorem cmp_ty (x y : Sm) : Fn2 Try.prog 10 (Ty.ex (.agg (u8s x.l))) (Ty.ex (.agg (u8s y.l))) (Ty.ex (.int .i64 (cmpL x.l y.l))) := by
  refine ⟨fun args w => by kernel_rfl, fun w v u hv hu => ?_⟩
  refine enter_ty 8 [Ty.ex (.agg (u8s x.l)), Ty.ex (.agg (u8s y.l))] Try.func10 rfl (by kernel_rfl) ⟨hv, hu, trivial⟩ fun a hF => ?_
  have hB := Below.refl w.heap.size w
  repeat with_reducible first | refine wp_seq ?_ | refine nThen ?_ | refine nBlk ?_ | refine wp_skip ?_ | refine wp_block ?_ | refine wp_exit ?_ | refine xThen ?_ | refine xHere ?_ | refine xFar (by decide) ?_ | refine wp_ret ?_ | refine rThen ?_ | refine rBlk ?_
  refine' reg_all hF ?_ mixed (by kernel_rfl) ?_
  rotate_left
  · repeat (first
        | exact Line.nil
        | (refine' Line.cons rfl (.no rfl rfl rfl rfl rfl rfl) ?_; rotate_left)
        | ((first | refine' Line.cons rfl (.run rfl rfl ?_) ?_ | refine' Line.cons rfl (.yes rfl rfl rfl rfl ?_) ?_)
           any_goals (first | exact cBoxSum rfl rfl | exact cMove rfl rfl | exact cAssign rfl rfl | exact cPickT rfl rfl rfl | exact cPickF rfl rfl rfl | exact cNot rfl rfl | exact cLss rfl rfl rfl | exact cLeq rfl rfl rfl | exact cGtr rfl rfl rfl | exact cGeq rfl rfl rfl | exact cEql rfl rfl rfl | exact cNeq rfl rfl rfl | exact cExtract rfl rfl rfl)
           rotate_left))
  intro a w1 hF hb hN
  replace hB := hB.trans (hb.mono hB.size)
  dsimp only [ext, Option.getD] at hF
  repeat with_reducible first | refine wp_seq ?_ | refine nThen ?_ | refine nBlk ?_ | refine wp_skip ?_ | refine wp_block ?_ | refine wp_exit ?_ | refine xThen ?_ | refine xHere ?_ | refine xFar (by decide) ?_ | refine wp_ret ?_ | refine rThen ?_ | refine rBlk ?_
  refine' reg_all hF ?_ mixed (by kernel_rfl) ?_
  rotate_left
  · repeat (first
        | exact Line.nil
        | (refine' Line.cons rfl (.no rfl rfl rfl rfl rfl rfl) ?_; rotate_left)
        | ((first | refine' Line.cons rfl (.run rfl rfl ?_) ?_ | refine' Line.cons rfl (.yes rfl rfl rfl rfl ?_) ?_)
           any_goals (first | exact cSliceArr rfl (.t rfl) Try.underlying24 sizeU (by simp [maxLen]) | exact cCallH2 rfl (.r rfl (reads_sl _ _ _)) (.r rfl (reads_sl _ _ _)) (compare_ty x y) | exact cMove rfl rfl | exact cAssign rfl rfl | exact cPickT rfl rfl rfl | exact cPickF rfl rfl rfl | exact cNot rfl rfl | exact cLss rfl rfl rfl | exact cLeq rfl rfl rfl | exact cGtr rfl rfl rfl | exact cGeq rfl rfl rfl | exact cEql rfl rfl rfl | exact cNeq rfl rfl rfl | exact cExtract rfl rfl rfl)
           rotate_left))
  intro a w2 hF hb hN
  replace hB := hB.trans (hb.mono hB.size)
  dsimp only [ext, Option.getD] at hF
  repeat with_reducible first | refine wp_seq ?_ | refine nThen ?_ | refine nBlk ?_ | refine wp_skip ?_ | refine wp_block ?_ | refine wp_exit ?_ | refine xThen ?_ | refine xHere ?_ | refine xFar (by decide) ?_ | refine wp_ret ?_ | refine rThen ?_ | refine rBlk ?_
  refine ret1 hF rfl rfl fun z hz => ?_
  exact ⟨z, rfl, hz, hB⟩
/-- Rising, each less than the next one. -/
def goodL (L : List Sm) : Bool := ((List.range (L.length - 1)).all fun k => decide (cmpL (L.getD k default).l (L.getD (k + 1) default).l < 0)) && decide (L.length ≤ 512)
theorem goodL_bad {L : List Sm} {k : Nat} (hk : k + 1 < L.length) (h : ¬ cmpL (L.getD k default).l (L.getD (k + 1) default).l < 0) : goodL L = false := by
  unfold goodL
  rw [Bool.and_eq_false_iff]
  left
  rw [List.all_eq_false]
  exact ⟨k, by simp; omega, by simpa using h⟩
theorem goodL_all {L : List Sm} (h : ∀ k, k + 1 < L.length → cmpL (L.getD k default).l (L.getD (k + 1) default).l < 0) : goodL L = decide (L.length ≤ 512) := by
  unfold goodL
  have : ((List.range (L.length - 1)).all fun k => decide (cmpL (L.getD k default).l (L.getD (k + 1) default).l < 0)) = true := by
    rw [List.all_eq_true]
    intro k hk
    have := h k (by simp at hk; omega)
    simpa using this
  rw [this, Bool.true_and]

end Go.Proofs.Ytkdkmnemmenikaa
