/- Layer 14 by types: PutSum, Level. -/
import Derived.Test.YtofekkhhminkhaaDoorPlaceD
import Derived.Test.YtofekkhhminkhaaDoorR1Of
namespace Go.Proofs.YtofekkhhminkhaaDoor
open Go.RowKit

/-- How often a number may be halved, at most f times. -/
def halves : Nat → Nat → Nat
  | 0, _ => 0
  | f + 1, x => if x % 2 = 0 then 1 + halves f (x / 2) else 0
theorem halves_le : ∀ f x, halves f x ≤ f
  | 0, _ => Nat.le_refl _
  | f + 1, x => by
    have := halves_le f (x / 2)
    unfold halves
    split <;> omega
theorem ctz_halves : ∀ (g f x : Nat), g ≤ f → 0 < x → min (Lib.ctzFrom f x) g = halves g x
  | 0, f, x, _, _ => by simp [halves]
  | g + 1, 0, x, h, _ => by omega
  | g + 1, f + 1, x, h, h0 => by
    unfold Lib.ctzFrom halves
    by_cases h2 : x % 2 = 1
    · rw [if_pos h2, if_neg (by omega)]; omega
    · rw [if_neg h2, if_pos (by omega)]
      have := ctz_halves g f (x / 2) (by omega) (by omega)
      omega
theorem halves_zero : ∀ g, halves g 0 = g
  | 0 => rfl
  | g + 1 => by
    unfold halves
    rw [if_pos (by rfl), show 0 / 2 = 0 from rfl, halves_zero g]
    omega
theorem ctz_nine (x : Nat) : min (Lib.ctz 64 x) 9 = halves 9 x := by
  by_cases h : x = 0
  · subst h; rw [halves_zero]; rfl
  · have e : Lib.ctz 64 x = Lib.ctzFrom 64 x := by simp [Lib.ctz, h]
    rw [e]
    exact ctz_halves 9 64 x (by omega) (by omega)
theorem halves_step {f x : Nat} (h : x % 2 = 0) : halves (f + 1) x = 1 + halves f (x / 2) := by rw [halves, if_pos h]
theorem halves_stop {f x : Nat} (h : ¬ x % 2 = 0) : halves f x = 0 := by
  cases f with
  | zero => rfl
  | succ f => rw [halves, if_neg h]
/-- A sum's level. -/
def levelS (x : Sm) : Nat := halves 9 (wordF (shaS (76 :: x.l)).l 3 8)
theorem word_lt (x : Sm) (i : Nat) : wordF x.l i 8 < 18446744073709551616 := Nat.lt_of_lt_of_le (wordF_lt x.l i (sm_getD x) 8) (by decide)

set_option maxRecDepth 100000 in
theorem level_ret (x : Sm) (w : World) (hT : TabOk w) : Ret Tryd.prog 12 #[.agg (u8s x.l)] w (Ty.ex (.int .i64 (levelS x : Nat))) := by
  have hO := sumOf2_ty (e := 66) (τ := Ty.sl 5 1 [bv 76]) (σ := Ty.sl 27 32 x.enc) [76] x.l (reads_sl _ _ _) (by rw [x.len]; exact reads_sl _ _ _) (by simp) x.lt (by rw [x.len]; decide)
  have hl : levelS x = min (Lib.ctz 64 (wordF (shaS (76 :: x.l)).l 3 8)) 9 := (ctz_nine _).symm
  rw [hl]
  have hY : shaL ([76] ++ x.l) = (shaS (76 :: x.l)).l := rfl
  rw [hY] at hO
  generalize shaS (76 :: x.l) = Y at *
  clear hY hl
  have hW := sword_ty Y 3 (by decide)
  have hWl := word_lt Y 3
  generalize wordF Y.l 3 8 = V at *
  have heT : Enters Tryd.prog 32 := fun args w => by kernel_rfl
  refine enter_ty 12 [Ty.ex (.agg (u8s x.l))] Tryd.func12 rfl (by kernel_rfl) ⟨rfl, trivial⟩ fun a hF => ?_
  have hB := Below.refl w.heap.size w
  repeat (first | with_reducible refine wp_seq ?_ | with_reducible refine nThen ?_ | with_reducible refine nBlk ?_ | with_reducible refine wp_skip ?_ | with_reducible refine wp_block ?_ | with_reducible refine wp_exit ?_ | with_reducible refine xThen ?_ | with_reducible refine xHere ?_ | with_reducible refine xFar (by decide) ?_ | with_reducible refine wp_ret ?_ | with_reducible refine rThen ?_ | with_reducible refine rBlk ?_)
  refine' reg_all hF ?_ mixed (by kernel_rfl) ?_
  rotate_left
  · repeat (first
        | exact Line.nil
        | (refine' Line.cons rfl (.no rfl rfl rfl rfl rfl rfl) ?_; rotate_left)
        | ((first | refine' Line.cons rfl (.run rfl rfl ?_) ?_ | refine' Line.cons rfl (.yes rfl rfl rfl rfl ?_) ?_)
           any_goals (first | exact cMove rfl rfl | exact cAssign rfl rfl | exact cNot rfl rfl | exact cBoxSum rfl rfl | exact cPickT rfl rfl rfl | exact cPickF rfl rfl rfl | exact cLss rfl rfl rfl | exact cLeq rfl rfl rfl | exact cGtr rfl rfl rfl | exact cGeq rfl rfl rfl | exact cEql rfl rfl rfl | exact cNeq rfl rfl rfl | exact cExtract rfl rfl rfl)
           rotate_left))
  intro a w1 hF hb hN
  have hBs := hB.size
  replace hB := hB.trans (hb.mono hB.size)
  dsimp only [ext, Option.getD] at hF
  repeat (first | with_reducible refine wp_seq ?_ | with_reducible refine nThen ?_ | with_reducible refine nBlk ?_ | with_reducible refine wp_skip ?_ | with_reducible refine wp_block ?_ | with_reducible refine wp_exit ?_ | with_reducible refine xThen ?_ | with_reducible refine xHere ?_ | with_reducible refine xFar (by decide) ?_ | with_reducible refine wp_ret ?_ | with_reducible refine rThen ?_ | with_reducible refine rBlk ?_)
  refine' region_ty 5 mixed (by kernel_rfl) hF ?_ ?_
  rotate_left
  · simp only [List.take_succ_cons, List.take_zero]
    repeat (first
        | exact Line.nil
        | (refine' Line.cons rfl (.no rfl rfl rfl rfl rfl rfl) ?_; rotate_left)
        | (refine' Line.cons rfl (.new rfl rfl (run_alloc_i infoS) rfl) ?_; rotate_left)
        | ((first | refine' Line.cons rfl (.run rfl rfl ?_) ?_ | refine' Line.cons rfl (.yes rfl rfl rfl rfl ?_) ?_)
           any_goals (first | exact cMove rfl rfl | exact cAssign rfl rfl | exact cNot rfl rfl | exact cBuildV (vs := [.int .u8 76]) rfl (parts1v rfl rfl) Tryd.underlying66 infoU8 rfl (by simp [Value.cells]) (by decide) (by simp [maxLen]) | exact cSliceArr rfl (.t rfl) Tryd.underlying27 sizeU (by simp [maxLen]) | exact cBuildT (τs := [Ty.sl 5 1 [bv 76], Ty.sl 27 32 x.enc]) rfl (partsT2 rfl (.t rfl) (.t rfl) (Ty.sl_isSl _ _ _) (Ty.sl_isSl _ _ _)) Tryd.underlying99 infoB rfl | exact cCall1 rfl rfl hO | exact cPickT rfl rfl rfl | exact cPickF rfl rfl rfl | exact cLss rfl rfl rfl | exact cLeq rfl rfl rfl | exact cGtr rfl rfl rfl | exact cGeq rfl rfl rfl | exact cEql rfl rfl rfl | exact cNeq rfl rfl rfl | exact cExtract rfl rfl rfl)
           rotate_left))
  intro a w2 hF hb hN
  have hBs := hB.size
  replace hB := hB.trans (hb.mono hB.size)
  simp only [List.take_succ_cons, List.take_zero, List.drop_succ_cons, List.drop_zero] at hF hN ⊢
  dsimp only [ext, Option.getD] at hF
  obtain ⟨z, ⟨gx, rfl, hgx, hbx⟩, hF⟩ := hF.open (s := 3) rfl
  have hgx : w1.heap.size ≤ gx := hgx
  have hw1 : w.heap.size ≤ w1.heap.size := hBs
  refine tlStoreV (Δ := [(3, Ty.ex (.pointer (some ⟨gx, 0, none⟩)))]) hF rfl rfl rfl rfl (hF.getEx (s := 7) rfl) hbx (by show (u8s _).size = (u8s _).size; rw [u8s_size, u8s_size, Sm.len]; rfl) (by show _ = some (u8s _).size; rw [u8s_size, Sm.len]; exact sizeS) (u8s_one _) (hF.keep [3]) rfl ?_
  intro w3 hF hbx hkx
  refine wpList_nil ?_
  repeat (first | with_reducible refine wp_seq ?_ | with_reducible refine nThen ?_ | with_reducible refine nBlk ?_ | with_reducible refine wp_skip ?_ | with_reducible refine wp_block ?_ | with_reducible refine wp_exit ?_ | with_reducible refine xThen ?_ | with_reducible refine xHere ?_ | with_reducible refine xFar (by decide) ?_ | with_reducible refine wp_ret ?_ | with_reducible refine rThen ?_ | with_reducible refine rBlk ?_)
  replace hB := below_own hB hkx (by intro y hy; simp only [List.mem_singleton] at hy; omega)
  have hax : (Ty.at_ 27 Y.enc).p w3 (.pointer (some ⟨gx, 0, none⟩)) := by
    have h := blk_at hbx
    rwa [show (Value.agg (u8s Y.l)).cells.toList = Y.enc from u8s_list _] at h
  have hT3 := hT.below hB
  refine' reg_all hF ?_ mixed (by kernel_rfl) ?_
  rotate_left
  · repeat (first
        | exact Line.nil
        | (refine' Line.cons rfl (.no rfl rfl rfl rfl rfl rfl) ?_; rotate_left)
        | ((first | refine' Line.cons rfl (.run rfl rfl ?_) ?_ | refine' Line.cons rfl (.yes rfl rfl rfl rfl ?_) ?_)
           any_goals (first | exact cMove rfl rfl | exact cAssign rfl rfl | exact cNot rfl rfl | exact cLoadSum rfl (.l rfl hax) Tryd.underlying27 sizeS | exact cCall2 rfl rfl rfl hW | exact cCallX1 (f := 32) (v := .int .u64 (V : Int)) rfl rfl heT (fun W hb => tz_ret V hWl W (hT3.below hb)) | exact cMinI rfl rfl | exact cPickT rfl rfl rfl | exact cPickF rfl rfl rfl | exact cLss rfl rfl rfl | exact cLeq rfl rfl rfl | exact cGtr rfl rfl rfl | exact cGeq rfl rfl rfl | exact cEql rfl rfl rfl | exact cNeq rfl rfl rfl | exact cExtract rfl rfl rfl)
           rotate_left))
  intro a w4 hF hb hN
  have hBs := hB.size
  replace hB := hB.trans (hb.mono hB.size)
  dsimp only [ext, Option.getD] at hF
  repeat (first | with_reducible refine wp_seq ?_ | with_reducible refine nThen ?_ | with_reducible refine nBlk ?_ | with_reducible refine wp_skip ?_ | with_reducible refine wp_block ?_ | with_reducible refine wp_exit ?_ | with_reducible refine xThen ?_ | with_reducible refine xHere ?_ | with_reducible refine xFar (by decide) ?_ | with_reducible refine wp_ret ?_ | with_reducible refine rThen ?_ | with_reducible refine rBlk ?_)
  refine ret1 hF rfl rfl fun z hz => ?_
  refine ⟨z, rfl, ?_, hB⟩
  have hz : z = .int .i64 (min ((Lib.ctz 64 V : Nat) : Int) 9) := hz
  rw [hz]
  show _ = _
  congr 1
  omega
end Go.Proofs.YtofekkhhminkhaaDoor
