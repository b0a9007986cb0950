/- Joined: TabK, TabL, SetH, SetI, SetJ, SetK, TabM, TabN, TabQ, SetR, TabS, TabT, TabV, SetL, SetM, SetS, OwnS, SetT. -/
import Derived.RegionTactic
import Derived.Test.YtmlbkcpmgcjblaaZTableSays4
/- Layer 15 by types: change, Put, Take, Count; the laws' few. -/
namespace Go.Proofs.Ytmlbkcpmgcjblaa
open Go.RowKit

/-! ### few -/
def ivz (z : Int) : Value := .int .i64 z
def fewB (z : Int) : List Nat := [(z % 256).toNat, (z / 256 % 256).toNat]
theorem fewB_lt (z : Int) : ∀ x ∈ fewB z, x < 256 := by
  intro x hx
  simp only [fewB, List.mem_cons, List.not_mem_nil, or_false] at hx
  rcases hx with rfl | rfl <;> omega
def fewS (z : Int) : Sm := shaS (fewB z)
def fewL (l : List Int) : List Sm := setL (l.map fewS)
theorem u8_wrap (z : Int) : IntKind.u8.wrap z = (((z % 256).toNat : Nat) : Int) := by rw [IntKind.wrap_u8']; omega
theorem ivz_drop {l : List Int} {k : Nat} (h : k < l.length) : (l.map ivz).drop k = ivz (l.getD k 0) :: (l.map ivz).drop (k + 1) := by
  have h1 : k < (l.map ivz).length := by rw [List.length_map]; exact h
  rw [List.drop_eq_getElem_cons h1]
  congr 1
  rw [List.getElem_map]
  simp [List.getD, List.getElem?_eq_getElem h]
theorem shr8z (z : Int) : z.fdiv (2 ^ (8 : Int).toNat) = z / 256 := by
  rw [show (2 : Int) ^ (8 : Int).toNat = 256 by decide, Int.fdiv_eq_ediv_of_nonneg _ (by decide)]
theorem n8i : (0 : Int) ≤ 8 ∧ (8 : Int).toNat ≤ IntKind.i64.bits := by decide
theorem take_snocS (l : List Int) {k : Nat} (h : k < l.length) : (l.map fewS).take (k + 1) = (l.map fewS).take k ++ [fewS (l.getD k 0)] := by
  rw [List.take_succ_eq_append_getElem (by rw [List.length_map]; exact h), List.getElem_map]
  simp [List.getD, List.getElem?_eq_getElem h]
set_option maxRecDepth 100000 in
set_option maxHeartbeats 2000000 in
theorem few15_ty (l : List Int) (τ : Ty) (hτ : Reads τ l.length (l.map ivz)) (hl : l.length ≤ 100000) : FnSeg1 Try.prog 47 τ 34 32 (fewL l).length (flat (fewL l)) := by
  refine ⟨fun args w => by kernel_rfl, fun w v hv0 => ?_⟩
  have hv : (Ty.rd l.length (l.map ivz)).p w v := hτ w v hv0
  have hof := of_ty (l.map fewS) (by rw [List.length_map]; omega)
  have eL : setL (l.map fewS) = fewL l := rfl
  rw [eL] at hof
  generalize fewL l = X at *
  let TV := Ty.rd l.length (l.map ivz)
  refine enter_ty 30 [Ty.ex v] Try.func47 rfl (by kernel_rfl) ⟨rfl, trivial⟩ fun a hF => ?_
  have hB := Below.refl w.heap.size w
  repeat (first | with_reducible refine wp_seq ?_ | with_reducible refine nThen ?_ | with_reducible refine nBlk ?_ | with_reducible refine wp_skip ?_ | with_reducible refine wp_block ?_ | with_reducible refine wp_exit ?_ | with_reducible refine xThen ?_ | with_reducible refine xHere ?_ | with_reducible refine xFar (by decide) ?_ | with_reducible refine wp_ret ?_ | with_reducible refine rThen ?_ | with_reducible refine rBlk ?_)
  refine' reg_all hF ?_ mixed (by kernel_rfl) ?_
  rotate_left
  · repeat (first
        | exact Line.nil
        | (refine' Line.cons rfl (.no rfl rfl rfl rfl rfl rfl) ?_; rotate_left)
        | ((first | refine' Line.cons rfl (.run rfl rfl ?_) ?_ | refine' Line.cons rfl (.yes rfl rfl rfl rfl ?_) ?_)
           any_goals (first | exact cMove rfl rfl | exact cAssign rfl rfl | exact cNot rfl rfl | exact cPickT rfl rfl rfl | exact cPickF rfl rfl rfl | exact cLss rfl rfl rfl | exact cLeq rfl rfl rfl | exact cGtr rfl rfl rfl | exact cGeq rfl rfl rfl | exact cEql rfl rfl rfl | exact cNeq rfl rfl rfl | exact cExtract rfl rfl rfl)
           rotate_left))
  intro a w1 hF hb hN
  have hBs := hB.size
  replace hB := hB.trans (hb.mono hB.size)
  dsimp only [ext, Option.getD] at hF
  repeat (first | with_reducible refine wp_seq ?_ | with_reducible refine nThen ?_ | with_reducible refine nBlk ?_ | with_reducible refine wp_skip ?_ | with_reducible refine wp_block ?_ | with_reducible refine wp_exit ?_ | with_reducible refine xThen ?_ | with_reducible refine xHere ?_ | with_reducible refine xFar (by decide) ?_ | with_reducible refine wp_ret ?_ | with_reducible refine rThen ?_ | with_reducible refine rBlk ?_)
  refine' reg_all hF ?_ mixed (by kernel_rfl) ?_
  rotate_left
  · repeat (first
        | exact Line.nil
        | (refine' Line.cons rfl (.no rfl rfl rfl rfl rfl rfl) ?_; rotate_left)
        | ((first | refine' Line.cons rfl (.run rfl rfl ?_) ?_ | refine' Line.cons rfl (.yes rfl rfl rfl rfl ?_) ?_)
           any_goals (first | exact cMove rfl rfl | exact cAssign rfl rfl | exact cNot rfl rfl | exact cPickT rfl rfl rfl | exact cPickF rfl rfl rfl | exact cLss rfl rfl rfl | exact cLeq rfl rfl rfl | exact cGtr rfl rfl rfl | exact cGeq rfl rfl rfl | exact cEql rfl rfl rfl | exact cNeq rfl rfl rfl | exact cExtract rfl rfl rfl)
           rotate_left))
  intro a w2 hF hb hN
  have hBs := hB.size
  replace hB := hB.trans (hb.mono hB.size)
  dsimp only [ext, Option.getD] at hF
  repeat (first | with_reducible refine wp_seq ?_ | with_reducible refine nThen ?_ | with_reducible refine nBlk ?_ | with_reducible refine wp_skip ?_ | with_reducible refine wp_block ?_ | with_reducible refine wp_exit ?_ | with_reducible refine xThen ?_ | with_reducible refine xHere ?_ | with_reducible refine xFar (by decide) ?_ | with_reducible refine wp_ret ?_ | with_reducible refine rThen ?_ | with_reducible refine rBlk ?_)
  refine' reg_all hF ?_ mixed (by kernel_rfl) ?_
  rotate_left
  · repeat (first
        | exact Line.nil
        | (refine' Line.cons rfl (.no rfl rfl rfl rfl rfl rfl) ?_; rotate_left)
        | ((first | refine' Line.cons rfl (.run rfl rfl ?_) ?_ | refine' Line.cons rfl (.yes rfl rfl rfl rfl ?_) ?_)
           any_goals (first | exact cMove rfl rfl | exact cAssign rfl rfl | exact cNot rfl rfl | exact cPickT rfl rfl rfl | exact cPickF rfl rfl rfl | exact cLss rfl rfl rfl | exact cLeq rfl rfl rfl | exact cGtr rfl rfl rfl | exact cGeq rfl rfl rfl | exact cEql rfl rfl rfl | exact cNeq rfl rfl rfl | exact cExtract rfl rfl rfl)
           rotate_left))
  intro a w3 hF hb hN
  have hBs := hB.size
  replace hB := hB.trans (hb.mono hB.size)
  dsimp only [ext, Option.getD] at hF
  repeat (first | with_reducible refine wp_seq ?_ | with_reducible refine nThen ?_ | with_reducible refine nBlk ?_ | with_reducible refine wp_skip ?_ | with_reducible refine wp_block ?_ | with_reducible refine wp_exit ?_ | with_reducible refine xThen ?_ | with_reducible refine xHere ?_ | with_reducible refine xFar (by decide) ?_ | with_reducible refine wp_ret ?_ | with_reducible refine rThen ?_ | with_reducible refine rBlk ?_)
  refine loop_ty (fun m a wr => ∃ (k : Nat) (u : Value) (S : List Nat), k + m = l.length ∧ Fr 30 [(0, Ty.ex v), (3, Ty.ex u), (4, Ty.ex (.int .i64 (k : Int)))] a wr ∧ Below w.heap.size w wr ∧ Seg wr 34 32 u k (flat ((l.map fewS).take k)) S ∧ ∀ y ∈ S, w.heap.size ≤ y) l.length ?_ ?_
  · exact ⟨0, _, [], by omega, hF.keep [0, 3, 4], hB, Seg.nil _ _ _, by simp⟩
  clear hF hB
  rintro m a wr ⟨k, u, S, hk, hF, hB, hseg, hS⟩
  have hvr := TV.below hv hB
  repeat (first | with_reducible refine wp_seq ?_ | with_reducible refine nThen ?_ | with_reducible refine nBlk ?_ | with_reducible refine wp_skip ?_ | with_reducible refine wp_block ?_ | with_reducible refine wp_exit ?_ | with_reducible refine xThen ?_ | with_reducible refine xHere ?_ | with_reducible refine xFar (by decide) ?_ | with_reducible refine wp_ret ?_ | with_reducible refine rThen ?_ | with_reducible refine rBlk ?_)
  refine' reg_all hF ?_ mixed (by kernel_rfl) ?_
  rotate_left
  · repeat (first
        | exact Line.nil
        | (refine' Line.cons rfl (.no rfl rfl rfl rfl rfl rfl) ?_; rotate_left)
        | ((first | refine' Line.cons rfl (.run rfl rfl ?_) ?_ | refine' Line.cons rfl (.yes rfl rfl rfl rfl ?_) ?_)
           any_goals (first | exact cMove rfl rfl | exact cAssign rfl rfl | exact cNot rfl rfl | exact cLenH rfl (.l rfl hvr) (Ty.rd_isSl _ _) Try.underlying66 | exact cPickT rfl rfl rfl | exact cPickF rfl rfl rfl | exact cLss rfl rfl rfl | exact cLeq rfl rfl rfl | exact cGtr rfl rfl rfl | exact cGeq rfl rfl rfl | exact cEql rfl rfl rfl | exact cNeq rfl rfl rfl | exact cExtract rfl rfl rfl)
           rotate_left))
  intro a w4 hF hb hN
  have hBs := hB.size
  replace hB := hB.trans (hb.mono hB.size)
  dsimp only [ext, Option.getD] at hF
  repeat (first | with_reducible refine wp_seq ?_ | with_reducible refine nThen ?_ | with_reducible refine nBlk ?_ | with_reducible refine wp_skip ?_ | with_reducible refine wp_block ?_ | with_reducible refine wp_exit ?_ | with_reducible refine xThen ?_ | with_reducible refine xHere ?_ | with_reducible refine xFar (by decide) ?_ | with_reducible refine wp_ret ?_ | with_reducible refine rThen ?_ | with_reducible refine rBlk ?_)
  replace hseg := hseg.below hb
  replace hvr := TV.below hv hB
  refine cond_ty hF rfl (fun hlt => ?_) (fun hge => ?_)
  · have hlt : k < l.length := by have := of_decide_eq_true hlt; omega
    have hd1 := ivz_drop hlt
    have hsn := take_snocS l hlt
    obtain ⟨z, hz⟩ : ∃ z, z = l.getD k 0 := ⟨_, rfl⟩
    rw [← hz] at hd1 hsn
    have hO := sumOf1_ty (e := 70) (τ := Ty.sl 5 2 ((fewB z).map bv)) (fewB z) (reads_sl _ _ _) (fewB_lt z) (by simp [fewB])
    have hY : shaL (fewB z) = (fewS z).l := rfl
    rw [hY] at hO
    generalize fewS z = Y at *
    repeat (first | with_reducible refine wp_seq ?_ | with_reducible refine nThen ?_ | with_reducible refine nBlk ?_ | with_reducible refine wp_skip ?_ | with_reducible refine wp_block ?_ | with_reducible refine wp_exit ?_ | with_reducible refine xThen ?_ | with_reducible refine xHere ?_ | with_reducible refine xFar (by decide) ?_ | with_reducible refine wp_ret ?_ | with_reducible refine rThen ?_ | with_reducible refine rBlk ?_)
    refine' region_ty 16 mixed (by kernel_rfl) hF ?_ ?_
    rotate_left
    · simp only [List.take_succ_cons, List.take_zero]
      repeat (first
          | exact Line.nil
          | (refine' Line.cons rfl (.no rfl rfl rfl rfl rfl rfl) ?_; rotate_left)
          | ((first | refine' Line.cons rfl (.run rfl rfl ?_) ?_ | refine' Line.cons rfl (.yes rfl rfl rfl rfl ?_) ?_)
             any_goals (first | exact cMove rfl rfl | exact cAssign rfl rfl | exact cNot rfl rfl | exact cIndexR (k := k) (sz := 1) rfl (.l rfl hvr) rfl Try.underlying66 sizeI hlt (by rw [List.length_map]; omega) | exact cLoad1 (u := ivz z) rfl (Has.c (.t rfl) (fun W v h => by rw [Nat.mul_one, hd1] at h; exact h)) (pts_atR _) Try.underlying3 rfl | exact cConvR (n := z) (r := (((z % 256).toNat : Nat) : Int)) rfl rfl Try.underlying3 Try.underlying5 (u8_wrap z) | exact cShr (r := z / 256) rfl rfl rfl n8i (shr8z z) | exact cConvR (n := z / 256) (r := (((z / 256 % 256).toNat : Nat) : Int)) rfl rfl Try.underlying3 Try.underlying5 (u8_wrap _) | exact cBuildV (vs := [bv (z % 256).toNat, bv (z / 256 % 256).toNat]) rfl (parts2v rfl rfl rfl) Try.underlying70 infoU8 rfl (by simp [Value.cells, bv]) (by decide) (by simp [maxLen]) | exact cBuildT (τs := [Ty.sl 5 2 ((fewB z).map bv)]) rfl (partsT1 rfl (.t rfl) (Ty.sl_isSl _ _ _)) Try.underlying113 infoB rfl | exact cCall1 rfl rfl hO | exact cBuildSums [Y] rfl (parts1v rfl rfl) Try.underlying24 infoS rfl | exact cPickT rfl rfl rfl | exact cPickF rfl rfl rfl | exact cLss rfl rfl rfl | exact cLeq rfl rfl rfl | exact cGtr rfl rfl rfl | exact cGeq rfl rfl rfl | exact cEql rfl rfl rfl | exact cNeq rfl rfl rfl | exact cExtract rfl rfl rfl)
             rotate_left))
    intro a w5 hF hb hN
    have hBs := hB.size
    replace hB := hB.trans (hb.mono hB.size)
    simp only [List.take_succ_cons, List.take_zero, List.drop_succ_cons, List.drop_zero] at hF hN ⊢
    dsimp only [ext, Option.getD] at hF
    replace hseg := hseg.below hb
    refine tlAppend (Δ := [(0, Ty.ex v), (4, Ty.ex (.int .i64 (k : Int)))]) (n := k) (m := 1) (news := flat [Y]) hF rfl rfl rfl rfl Try.underlying24 infoS zero32_size rfl hseg (.t rfl) sl_news (flat_len _) flat_one' (by simp [maxLen]; omega) (by omega) (hF.keep [0, 4]) rfl ?_
    intro a w6 u' S' hF hseg' hk7 hS'
    have hbS : ∀ y ∈ S', w.heap.size ≤ y := own_next hB hS hS'
    replace hB := below_own hB hk7 hS
    rw [← flat_append, ← hsn] at hseg'
    refine' tlOp hF rfl rfl rfl ?_ ?_
    rotate_left
    · first | exact cMove rfl rfl | exact cAssign rfl rfl | exact cPickT rfl rfl rfl | exact cPickF rfl rfl rfl | exact cNot rfl rfl | exact cLss rfl rfl rfl | exact cLeq rfl rfl rfl | exact cGtr rfl rfl rfl | exact cGeq rfl rfl rfl | exact cEql rfl rfl rfl | exact cNeq rfl rfl rfl | exact cExtract rfl rfl rfl
    intro a w7 hF hb
    have hBs := hB.size
    replace hB := hB.trans (hb.mono hB.size)
    try (refine wpList_nil ?_)
    repeat (first | with_reducible refine wp_seq ?_ | with_reducible refine nThen ?_ | with_reducible refine nBlk ?_ | with_reducible refine wp_skip ?_ | with_reducible refine wp_block ?_ | with_reducible refine wp_exit ?_ | with_reducible refine xThen ?_ | with_reducible refine xHere ?_ | with_reducible refine xFar (by decide) ?_ | with_reducible refine wp_ret ?_ | with_reducible refine rThen ?_ | with_reducible refine rBlk ?_)
    replace hseg' := hseg'.below hb
    refine' reg_all hF ?_ mixed (by kernel_rfl) ?_
    rotate_left
    · repeat (first
          | exact Line.nil
          | (refine' Line.cons rfl (.no rfl rfl rfl rfl rfl rfl) ?_; rotate_left)
          | ((first | refine' Line.cons rfl (.run rfl rfl ?_) ?_ | refine' Line.cons rfl (.yes rfl rfl rfl rfl ?_) ?_)
             any_goals (first | exact cMove rfl rfl | exact cAssign rfl rfl | exact cNot rfl rfl | exact cAdd (r := ((k + 1 : Nat) : Int)) rfl rfl rfl (by omega) | exact cPickT rfl rfl rfl | exact cPickF rfl rfl rfl | exact cLss rfl rfl rfl | exact cLeq rfl rfl rfl | exact cGtr rfl rfl rfl | exact cGeq rfl rfl rfl | exact cEql rfl rfl rfl | exact cNeq rfl rfl rfl | exact cExtract rfl rfl rfl)
             rotate_left))
    intro a w8 hF hb hN
    have hBs := hB.size
    replace hB := hB.trans (hb.mono hB.size)
    dsimp only [ext, Option.getD] at hF
    repeat (first | with_reducible refine wp_seq ?_ | with_reducible refine nThen ?_ | with_reducible refine nBlk ?_ | with_reducible refine wp_skip ?_ | with_reducible refine wp_block ?_ | with_reducible refine wp_exit ?_ | with_reducible refine xThen ?_ | with_reducible refine xHere ?_ | with_reducible refine xFar (by decide) ?_ | with_reducible refine wp_ret ?_ | with_reducible refine rThen ?_ | with_reducible refine rBlk ?_)
    exact ⟨m - 1, by omega, k + 1, u', S', by omega, hF.keep [0, 3, 4], hB, hseg'.below hb, hbS⟩
  have hge : ¬ k < l.length := by have := of_decide_eq_false hge; omega
  obtain rfl : k = l.length := by omega
  rw [List.take_of_length_le (by rw [List.length_map]; exact Nat.le_refl _)] at hseg
  have hu4 : (Ty.sums 34 (l.map fewS)).p w4 u := by
    have h := hseg.sl
    rwa [show l.length = (l.map fewS).length by rw [List.length_map]] at h
  have hw4 : w.heap.size ≤ w4.heap.size := hB.size
  repeat (first | with_reducible refine wp_seq ?_ | with_reducible refine nThen ?_ | with_reducible refine nBlk ?_ | with_reducible refine wp_skip ?_ | with_reducible refine wp_block ?_ | with_reducible refine wp_exit ?_ | with_reducible refine xThen ?_ | with_reducible refine xHere ?_ | with_reducible refine xFar (by decide) ?_ | with_reducible refine wp_ret ?_ | with_reducible refine rThen ?_ | with_reducible refine rBlk ?_)
  refine' reg_all hF ?_ mixed (by kernel_rfl) ?_
  rotate_left
  · repeat (first
        | exact Line.nil
        | (refine' Line.cons rfl (.no rfl rfl rfl rfl rfl rfl) ?_; rotate_left)
        | ((first | refine' Line.cons rfl (.run rfl rfl ?_) ?_ | refine' Line.cons rfl (.yes rfl rfl rfl rfl ?_) ?_)
           any_goals (first | exact cMove rfl rfl | exact cAssign rfl rfl | exact cNot rfl rfl | exact cCallS1 rfl (.l rfl hu4) hof | exact cPickT rfl rfl rfl | exact cPickF rfl rfl rfl | exact cLss rfl rfl rfl | exact cLeq rfl rfl rfl | exact cGtr rfl rfl rfl | exact cGeq rfl rfl rfl | exact cEql rfl rfl rfl | exact cNeq rfl rfl rfl | exact cExtract rfl rfl rfl)
           rotate_left))
  intro a w5 hF hb hN
  have hBs := hB.size
  replace hB := hB.trans (hb.mono hB.size)
  dsimp only [ext, Option.getD] at hF
  repeat (first | with_reducible refine wp_seq ?_ | with_reducible refine nThen ?_ | with_reducible refine nBlk ?_ | with_reducible refine wp_skip ?_ | with_reducible refine wp_block ?_ | with_reducible refine wp_exit ?_ | with_reducible refine xThen ?_ | with_reducible refine xHere ?_ | with_reducible refine xFar (by decide) ?_ | with_reducible refine wp_ret ?_ | with_reducible refine rThen ?_ | with_reducible refine rBlk ?_)
  refine ret1 hF rfl rfl fun y hy => ?_
  exact ⟨y, rfl, seg_old hw4 _ _ hy, hB⟩
end Go.Proofs.Ytmlbkcpmgcjblaa

/- Layer 15 by types: change, Put, Take, Count. -/
namespace Go.Proofs.Ytmlbkcpmgcjblaa
open Go.RowKit

set_option maxRecDepth 100000 in
set_option maxHeartbeats 2000000 in
theorem change15_ty {f : FuncId} (seed : Nat) (L : List Cl) (x : Sm) (n : Int) (hL : L.length ≤ 1000000) (hsd : seed < 18446744073709551616) (hf : ∀ c : Cl, Fn2 Try.prog f (Ty.ex (.agg c.a)) (Ty.ex (.agg (u8s x.l))) (Ty.ex (.agg (c.put x n).a))) : FnR3 Try.prog 84 (Ty.tab 87 seed L) (Ty.ex (.agg (u8s x.l))) (Ty.ex (.func (.func f) #[] #[])) (fun w => Ty.tabO w 87 seed (tput seed L x n)) := by
  refine ⟨fun args w => by kernel_rfl, fun w v u q ⟨s, hv, hs⟩ hu hq => ?_⟩
  subst hv
  obtain ⟨fv, hfv⟩ : ∃ fv : Value, fv = .func (.func f) #[] #[] := ⟨_, rfl⟩
  rw [← hfv] at hq
  let TL := Ty.cls 87 L
  refine enter_ty 39 [Ty.ex (.agg #[.int .u64 (seed : Int), s]), Ty.ex (.agg (u8s x.l)), Ty.ex fv] Try.func84 rfl (by kernel_rfl) ⟨rfl, hu, hq, trivial⟩ fun a hF => ?_
  have hB := Below.refl w.heap.size w
  repeat (first | with_reducible refine wp_seq ?_ | with_reducible refine nThen ?_ | with_reducible refine nBlk ?_ | with_reducible refine wp_skip ?_ | with_reducible refine wp_block ?_ | with_reducible refine wp_exit ?_ | with_reducible refine xThen ?_ | with_reducible refine xHere ?_ | with_reducible refine xFar (by decide) ?_ | with_reducible refine wp_ret ?_ | with_reducible refine rThen ?_ | with_reducible refine rBlk ?_)
  refine' reg_all hF ?_ mixed (by kernel_rfl) ?_
  rotate_left
  · repeat (first
        | exact Line.nil
        | (refine' Line.cons rfl (.no rfl rfl rfl rfl rfl rfl) ?_; rotate_left)
        | (refine' Line.cons rfl (.new rfl rfl (run_alloc_i infoT46) rfl) ?_; rotate_left)
        | ((first | refine' Line.cons rfl (.run rfl rfl ?_) ?_ | refine' Line.cons rfl (.yes rfl rfl rfl rfl ?_) ?_)
           any_goals (first | exact cMove rfl rfl | exact cAssign rfl rfl | exact cNot rfl rfl | exact cBoxTab rfl rfl | exact cBoxSum rfl rfl | exact cPickT rfl rfl rfl | exact cPickF rfl rfl rfl | exact cLss rfl rfl rfl | exact cLeq rfl rfl rfl | exact cGtr rfl rfl rfl | exact cGeq rfl rfl rfl | exact cEql rfl rfl rfl | exact cNeq rfl rfl rfl | exact cExtract rfl rfl rfl)
           rotate_left))
  intro a w1 hF hb hN
  have hBs := hB.size
  replace hB := hB.trans (hb.mono hB.size)
  dsimp only [ext, Option.getD] at hF
  repeat (first | with_reducible refine wp_seq ?_ | with_reducible refine nThen ?_ | with_reducible refine nBlk ?_ | with_reducible refine wp_skip ?_ | with_reducible refine wp_block ?_ | with_reducible refine wp_exit ?_ | with_reducible refine xThen ?_ | with_reducible refine xHere ?_ | with_reducible refine xFar (by decide) ?_ | with_reducible refine wp_ret ?_ | with_reducible refine rThen ?_ | with_reducible refine rBlk ?_)
  obtain ⟨z, ⟨g6, rfl, hg6, hb6⟩, hF⟩ := hF.open (s := 6) rfl
  have hg6 : w.heap.size ≤ g6 := hg6
  obtain ⟨p3, hp3, hF⟩ := hF.open (s := 3) rfl
  obtain ⟨p4, hp4, hF⟩ := hF.open (s := 4) rfl
  have hs1 := TL.below hs hB
  have hB0 := hB
  have hw1 := hB.size
  have hlt6 := hb6.lt
  replace hB := Below.refl w1.heap.size w1
  repeat (first | with_reducible refine wp_seq ?_ | with_reducible refine nThen ?_ | with_reducible refine nBlk ?_ | with_reducible refine wp_skip ?_ | with_reducible refine wp_block ?_ | with_reducible refine wp_exit ?_ | with_reducible refine xThen ?_ | with_reducible refine xHere ?_ | with_reducible refine xFar (by decide) ?_ | with_reducible refine wp_ret ?_ | with_reducible refine rThen ?_ | with_reducible refine rBlk ?_)
  refine' reg_all hF ?_ mixed (by kernel_rfl) ?_
  rotate_left
  · repeat (first
        | exact Line.nil
        | (refine' Line.cons rfl (.no rfl rfl rfl rfl rfl rfl) ?_; rotate_left)
        | ((first | refine' Line.cons rfl (.run rfl rfl ?_) ?_ | refine' Line.cons rfl (.yes rfl rfl rfl rfl ?_) ?_)
           any_goals (first | exact cMove rfl rfl | exact cAssign rfl rfl | exact cNot rfl rfl | exact cFldL46 rfl (.l rfl hp3) | exact cRowOf46 rfl (.t rfl) | exact cCallS1 rfl (.l rfl hs1) (cloneC_ty L hL) | exact cPickT rfl rfl rfl | exact cPickF rfl rfl rfl | exact cLss rfl rfl rfl | exact cLeq rfl rfl rfl | exact cGtr rfl rfl rfl | exact cGeq rfl rfl rfl | exact cEql rfl rfl rfl | exact cNeq rfl rfl rfl | exact cExtract rfl rfl rfl)
           rotate_left))
  intro a w2 hF hb hN
  have hBs := hB.size
  replace hB := hB.trans (hb.mono hB.size)
  dsimp only [ext, Option.getD] at hF
  repeat (first | with_reducible refine wp_seq ?_ | with_reducible refine nThen ?_ | with_reducible refine nBlk ?_ | with_reducible refine wp_skip ?_ | with_reducible refine wp_block ?_ | with_reducible refine wp_exit ?_ | with_reducible refine xThen ?_ | with_reducible refine xHere ?_ | with_reducible refine xFar (by decide) ?_ | with_reducible refine wp_ret ?_ | with_reducible refine rThen ?_ | with_reducible refine rBlk ?_)
  obtain ⟨u7, ⟨S, hsg, hS⟩, hF⟩ := hF.open (s := 7) rfl
  have hp32 := (Ty.at_ 41 [.int .u64 (seed : Int), s]).below hp3 hB
  have hp42 := (Ty.at_ 34 x.enc).below hp4 hB
  have hs7 : (Ty.cls 87 L).p w2 u7 := hsg.sl
  have hPp := places_ty seed (L.length : Int) x hsd
  have hPl3 := placesN_len3 seed (L.length : Int) x
  have hPd : ∀ j, j < (placesN seed (L.length : Int) x).length → (placesN seed (L.length : Int) x).getD j 0 < L.length := fun j hj => places_lt seed L.length x _ (getD_mem hj)
  have hput : tput seed L x n = (placesN seed (L.length : Int) x).foldl (fun L i => tputAt L i x n) L := rfl
  generalize placesN seed (L.length : Int) x = PL at *
  repeat (first | with_reducible refine wp_seq ?_ | with_reducible refine nThen ?_ | with_reducible refine nBlk ?_ | with_reducible refine wp_skip ?_ | with_reducible refine wp_block ?_ | with_reducible refine wp_exit ?_ | with_reducible refine xThen ?_ | with_reducible refine xHere ?_ | with_reducible refine xFar (by decide) ?_ | with_reducible refine wp_ret ?_ | with_reducible refine rThen ?_ | with_reducible refine rBlk ?_)
  refine' reg_all hF ?_ mixed (by kernel_rfl) ?_
  rotate_left
  · repeat (first
        | exact Line.nil
        | (refine' Line.cons rfl (.no rfl rfl rfl rfl rfl rfl) ?_; rotate_left)
        | ((first | refine' Line.cons rfl (.run rfl rfl ?_) ?_ | refine' Line.cons rfl (.yes rfl rfl rfl rfl ?_) ?_)
           any_goals (first | exact cMove rfl rfl | exact cAssign rfl rfl | exact cNot rfl rfl | exact cFldS46 rfl (.l rfl hp32) | exact cLoadU64 rfl (.t rfl) | exact cLenH rfl (.l rfl hs7) (Ty.sl_isSl _ _ _) Try.underlying39 | exact cLoadSum rfl (.l rfl hp42) Try.underlying34 sizeS | exact cCall3 rfl rfl rfl rfl hPp | exact cLen rfl rfl (Ty.sl_isSl _ _ _) Try.underlying66 | exact cPickT rfl rfl rfl | exact cPickF rfl rfl rfl | exact cLss rfl rfl rfl | exact cLeq rfl rfl rfl | exact cGtr rfl rfl rfl | exact cGeq rfl rfl rfl | exact cEql rfl rfl rfl | exact cNeq rfl rfl rfl | exact cExtract rfl rfl rfl)
           rotate_left))
  intro a w3 hF hb hN
  have hBs := hB.size
  replace hB := hB.trans (hb.mono hB.size)
  dsimp only [ext, Option.getD] at hF
  repeat (first | with_reducible refine wp_seq ?_ | with_reducible refine nThen ?_ | with_reducible refine nBlk ?_ | with_reducible refine wp_skip ?_ | with_reducible refine wp_block ?_ | with_reducible refine wp_exit ?_ | with_reducible refine xThen ?_ | with_reducible refine xHere ?_ | with_reducible refine xFar (by decide) ?_ | with_reducible refine wp_ret ?_ | with_reducible refine rThen ?_ | with_reducible refine rBlk ?_)
  replace hsg := hsg.below hb
  obtain ⟨v18, hv18, hF⟩ := hF.open (s := 18) rfl
  refine loop_ty (fun m a wr => ∃ j : Nat, j + m = PL.length ∧ Fr 39 [(2, Ty.ex fv), (3, Ty.ex p3), (4, Ty.ex p4), (6, Ty.ex (.pointer (some ⟨g6, 0, none⟩))), (7, Ty.ex u7), (18, Ty.ex v18), (19, Ty.ex (.int .i64 (PL.length : Int))), (20, Ty.ex (.int .i64 (j : Int)))] a wr ∧ Below w1.heap.size w1 wr ∧ Seg wr 87 65 u7 L.length (flatC ((PL.take j).foldl (fun L i => tputAt L i x n) L)) S ∧ (Ty.sl 3 PL.length (PL.map ivn)).p wr v18) PL.length ?_ ?_
  · exact ⟨0, by omega, hF.keep [2, 3, 4, 6, 7, 18, 19, 20], hB, hsg, hv18⟩
  clear hF hB hsg hv18 hp32 hp42 hs7
  rintro m a wr ⟨j, hj, hF, hB, hsg, hv18⟩
  repeat (first | with_reducible refine wp_seq ?_ | with_reducible refine nThen ?_ | with_reducible refine nBlk ?_ | with_reducible refine wp_skip ?_ | with_reducible refine wp_block ?_ | with_reducible refine wp_exit ?_ | with_reducible refine xThen ?_ | with_reducible refine xHere ?_ | with_reducible refine xFar (by decide) ?_ | with_reducible refine wp_ret ?_ | with_reducible refine rThen ?_ | with_reducible refine rBlk ?_)
  refine' reg_all hF ?_ mixed (by kernel_rfl) ?_
  rotate_left
  · repeat (first
        | exact Line.nil
        | (refine' Line.cons rfl (.no rfl rfl rfl rfl rfl rfl) ?_; rotate_left)
        | ((first | refine' Line.cons rfl (.run rfl rfl ?_) ?_ | refine' Line.cons rfl (.yes rfl rfl rfl rfl ?_) ?_)
           any_goals (first | exact cMove rfl rfl | exact cAssign rfl rfl | exact cNot rfl rfl | exact cPickT rfl rfl rfl | exact cPickF rfl rfl rfl | exact cLss rfl rfl rfl | exact cLeq rfl rfl rfl | exact cGtr rfl rfl rfl | exact cGeq rfl rfl rfl | exact cEql rfl rfl rfl | exact cNeq rfl rfl rfl | exact cExtract rfl rfl rfl)
           rotate_left))
  intro a w4 hF hb hN
  have hBs := hB.size
  replace hB := hB.trans (hb.mono hB.size)
  dsimp only [ext, Option.getD] at hF
  repeat (first | with_reducible refine wp_seq ?_ | with_reducible refine nThen ?_ | with_reducible refine nBlk ?_ | with_reducible refine wp_skip ?_ | with_reducible refine wp_block ?_ | with_reducible refine wp_exit ?_ | with_reducible refine xThen ?_ | with_reducible refine xHere ?_ | with_reducible refine xFar (by decide) ?_ | with_reducible refine wp_ret ?_ | with_reducible refine rThen ?_ | with_reducible refine rBlk ?_)
  replace hsg := hsg.below hb
  replace hv18 : (Ty.sl 3 PL.length (PL.map ivn)).p w4 v18 := (Ty.sl 3 PL.length (PL.map ivn)).below hv18 hb
  refine cond_ty hF rfl (fun hlt2 => ?_) (fun hge2 => ?_)
  · have hlt2 : j < PL.length := by have := of_decide_eq_true hlt2; omega
    have hi := hPd j hlt2
    have hfs := fold_snoc PL hlt2 L x n
    have hd1 := ivn_drop hlt2
    have hFl : ((PL.take j).foldl (fun L i => tputAt L i x n) L).length = L.length := by rw [foldAt_len]
    generalize (PL.take j).foldl (fun L i => tputAt L i x n) L = R at *
    generalize PL.getD j 0 = i at *
    obtain ⟨g, off, cap, eu, eS, hsl⟩ : ∃ g off cap, u7 = .slice (some ⟨g, off, none⟩) L.length cap ∧ S = [g] ∧ SegL w4 87 65 g off L.length cap (flatC R) := by
      rcases hsg.cases with ⟨_, h0, _⟩ | h
      · omega
      · exact h
    have hgw : w1.heap.size ≤ g := by
      have := hS g (by rw [eS]; simp)
      exact this
    rw [eu, hfv] at hF
    have hp44 := (Ty.at_ 34 x.enc).below hp4 hB
    repeat (first | with_reducible refine wp_seq ?_ | with_reducible refine nThen ?_ | with_reducible refine nBlk ?_ | with_reducible refine wp_skip ?_ | with_reducible refine wp_block ?_ | with_reducible refine wp_exit ?_ | with_reducible refine xThen ?_ | with_reducible refine xHere ?_ | with_reducible refine xFar (by decide) ?_ | with_reducible refine wp_ret ?_ | with_reducible refine rThen ?_ | with_reducible refine rBlk ?_)
    refine' reg_all hF ?_ mixed (by kernel_rfl) ?_
    rotate_left
    · repeat (first
          | exact Line.nil
          | (refine' Line.cons rfl (.no rfl rfl rfl rfl rfl rfl) ?_; rotate_left)
          | ((first | refine' Line.cons rfl (.run rfl rfl ?_) ?_ | refine' Line.cons rfl (.yes rfl rfl rfl rfl ?_) ?_)
             any_goals (first | exact cMove rfl rfl | exact cAssign rfl rfl | exact cNot rfl rfl | exact cIndexS (k := j) (sz := 1) rfl (.l rfl hv18) rfl Try.underlying66 sizeI hlt2 (by rw [List.length_map]; omega) | exact cLoad1 (u := ivn i) rfl (Has.c (.t rfl) (fun W v h => by rw [Nat.mul_one, hd1] at h; exact h)) (pts_at _ _) Try.underlying3 rfl | exact cPickT rfl rfl rfl | exact cPickF rfl rfl rfl | exact cLss rfl rfl rfl | exact cLeq rfl rfl rfl | exact cGtr rfl rfl rfl | exact cGeq rfl rfl rfl | exact cEql rfl rfl rfl | exact cNeq rfl rfl rfl | exact cExtract rfl rfl rfl)
             rotate_left))
    intro a w5 hF hb hN
    have hBs := hB.size
    replace hB := hB.trans (hb.mono hB.size)
    dsimp only [ext, Option.getD] at hF
    repeat (first | with_reducible refine wp_seq ?_ | with_reducible refine nThen ?_ | with_reducible refine nBlk ?_ | with_reducible refine wp_skip ?_ | with_reducible refine wp_block ?_ | with_reducible refine wp_exit ?_ | with_reducible refine xThen ?_ | with_reducible refine xHere ?_ | with_reducible refine xFar (by decide) ?_ | with_reducible refine wp_ret ?_ | with_reducible refine rThen ?_ | with_reducible refine rBlk ?_)
    replace hsl := hsl.below hb
    replace hv18 : (Ty.sl 3 PL.length (PL.map ivn)).p w5 v18 := (Ty.sl 3 PL.length (PL.map ivn)).below hv18 hb
    replace hp44 := (Ty.at_ 34 x.enc).below hp44 hb
    have hcell := cell_at hsl (i := i) (by omega)
    refine' region_ty 10 mixed (by kernel_rfl) hF ?_ ?_
    rotate_left
    · simp only [List.take_succ_cons, List.take_zero]
      repeat (first
          | exact Line.nil
          | (refine' Line.cons rfl (.no rfl rfl rfl rfl rfl rfl) ?_; rotate_left)
          | ((first | refine' Line.cons rfl (.run rfl rfl ?_) ?_ | refine' Line.cons rfl (.yes rfl rfl rfl rfl ?_) ?_)
             any_goals (first | exact cMove rfl rfl | exact cAssign rfl rfl | exact cNot rfl rfl | exact cIndexEx (k := i) (sz := 65) rfl rfl rfl Try.underlying39 info34 hi | exact cLoadCl34 rfl (.l rfl hcell) | exact cLoadSum rfl (.l rfl hp44) Try.underlying34 sizeS | exact cCallV2 rfl rfl (.t rfl) (.t rfl) (hf _) | exact cPickT rfl rfl rfl | exact cPickF rfl rfl rfl | exact cLss rfl rfl rfl | exact cLeq rfl rfl rfl | exact cGtr rfl rfl rfl | exact cGeq rfl rfl rfl | exact cEql rfl rfl rfl | exact cNeq rfl rfl rfl | exact cExtract rfl rfl rfl)
             rotate_left))
    intro a w6 hF hb hN
    have hBs := hB.size
    replace hB := hB.trans (hb.mono hB.size)
    simp only [List.take_succ_cons, List.take_zero, List.drop_succ_cons, List.drop_zero] at hF hN ⊢
    dsimp only [ext, Option.getD] at hF
    replace hsl := hsl.below hb
    replace hv18 : (Ty.sl 3 PL.length (PL.map ivn)).p w6 v18 := (Ty.sl 3 PL.length (PL.map ivn)).below hv18 hb
    obtain ⟨csb, hbl⟩ : ∃ cs, Blk w6 g 87 cs := by
      obtain ⟨_, _, _, cs, h, _⟩ := hsl
      exact ⟨cs, h⟩
    refine tlStoreAt (Δ := [(2, Ty.ex fv), (3, Ty.ex p3), (4, Ty.ex p4), (6, Ty.ex (.pointer (some ⟨g6, 0, none⟩))), (7, Ty.ex u7), (18, Ty.ex v18), (19, Ty.ex (.int .i64 (PL.length : Int))), (20, Ty.ex (.int .i64 (j : Int)))]) (k := i * 65) hF rfl rfl rfl rfl rfl hsl (by rw [Cl.size]; omega) (by rw [Cl.size]; exact info34) (Cl.one _) (by rw [eu, hfv]; exact hF.keep [2, 3, 4, 6, 7, 18, 19, 20]) rfl ?_
    intro w8 hF hsl hk8
    refine wpList_nil ?_
    replace hB := below_own hB hk8 (by intro y hy; simp only [List.mem_singleton] at hy; omega)
    replace hv18 : (Ty.sl 3 PL.length (PL.map ivn)).p w8 v18 := (Ty.sl 3 PL.length (PL.map ivn)).far hv18 hk8 hbl rfl
    rw [show ((R.getD i default).put x n).a.toList = ((R.getD i default).put x n).enc from rfl, over_flatC _ _ (by omega)] at hsl
    rw [show R.set i ((R.getD i default).put x n) = tputAt R i x n from rfl, ← hfs] at hsl
    replace hsg := hsl.seg
    rw [← eu, ← eS] at hsg
    repeat (first | with_reducible refine wp_seq ?_ | with_reducible refine nThen ?_ | with_reducible refine nBlk ?_ | with_reducible refine wp_skip ?_ | with_reducible refine wp_block ?_ | with_reducible refine wp_exit ?_ | with_reducible refine xThen ?_ | with_reducible refine xHere ?_ | with_reducible refine xFar (by decide) ?_ | with_reducible refine wp_ret ?_ | with_reducible refine rThen ?_ | with_reducible refine rBlk ?_)
    refine' reg_all hF ?_ mixed (by kernel_rfl) ?_
    rotate_left
    · repeat (first
          | exact Line.nil
          | (refine' Line.cons rfl (.no rfl rfl rfl rfl rfl rfl) ?_; rotate_left)
          | ((first | refine' Line.cons rfl (.run rfl rfl ?_) ?_ | refine' Line.cons rfl (.yes rfl rfl rfl rfl ?_) ?_)
             any_goals (first | exact cMove rfl rfl | exact cAssign rfl rfl | exact cNot rfl rfl | exact cAdd (r := ((j + 1 : Nat) : Int)) rfl rfl rfl (by omega) | exact cPickT rfl rfl rfl | exact cPickF rfl rfl rfl | exact cLss rfl rfl rfl | exact cLeq rfl rfl rfl | exact cGtr rfl rfl rfl | exact cGeq rfl rfl rfl | exact cEql rfl rfl rfl | exact cNeq rfl rfl rfl | exact cExtract rfl rfl rfl)
             rotate_left))
    intro a w9 hF hb hN
    have hBs := hB.size
    replace hB := hB.trans (hb.mono hB.size)
    dsimp only [ext, Option.getD] at hF
    repeat (first | with_reducible refine wp_seq ?_ | with_reducible refine nThen ?_ | with_reducible refine nBlk ?_ | with_reducible refine wp_skip ?_ | with_reducible refine wp_block ?_ | with_reducible refine wp_exit ?_ | with_reducible refine xThen ?_ | with_reducible refine xHere ?_ | with_reducible refine xFar (by decide) ?_ | with_reducible refine wp_ret ?_ | with_reducible refine rThen ?_ | with_reducible refine rBlk ?_)
    exact ⟨m - 1, by omega, j + 1, by omega, hF.keep [2, 3, 4, 6, 7, 18, 19, 20], hB, hsg.below hb, (Ty.sl 3 PL.length (PL.map ivn)).below hv18 hb⟩
  have hge2 : ¬ j < PL.length := by have := of_decide_eq_false hge2; omega
  obtain rfl : j = PL.length := by omega
  rw [List.take_length, ← hput] at hsg
  have hp34 := (Ty.at_ 41 [.int .u64 (seed : Int), s]).below hp3 hB
  replace hb6 : Blk w4 g6 41 #[.int .u64 0, .slice none 0 0] := hb6.below hB
  replace hB := hB0.trans (hB.mono hw1)
  repeat (first | with_reducible refine wp_seq ?_ | with_reducible refine nThen ?_ | with_reducible refine nBlk ?_ | with_reducible refine wp_skip ?_ | with_reducible refine wp_block ?_ | with_reducible refine wp_exit ?_ | with_reducible refine xThen ?_ | with_reducible refine xHere ?_ | with_reducible refine xFar (by decide) ?_ | with_reducible refine wp_ret ?_ | with_reducible refine rThen ?_ | with_reducible refine rBlk ?_)
  refine' region_ty 4 mixed (by kernel_rfl) hF ?_ ?_
  rotate_left
  · simp only [List.take_succ_cons, List.take_zero]
    repeat (first
        | exact Line.nil
        | (refine' Line.cons rfl (.no rfl rfl rfl rfl rfl rfl) ?_; rotate_left)
        | ((first | refine' Line.cons rfl (.run rfl rfl ?_) ?_ | refine' Line.cons rfl (.yes rfl rfl rfl rfl ?_) ?_)
           any_goals (first | exact cMove rfl rfl | exact cAssign rfl rfl | exact cNot rfl rfl | exact cFldS46 rfl (.l rfl hp34) | exact cLoadU64 rfl (.t rfl) | exact cBuild2w rfl rfl rfl (fun w => buildT46 (seed : Int) (seg_isA hsg) w) | exact cPickT rfl rfl rfl | exact cPickF rfl rfl rfl | exact cLss rfl rfl rfl | exact cLeq rfl rfl rfl | exact cGtr rfl rfl rfl | exact cGeq rfl rfl rfl | exact cEql rfl rfl rfl | exact cNeq rfl rfl rfl | exact cExtract rfl rfl rfl)
           rotate_left))
  intro a w5 hF hb hN
  have hBs := hB.size
  replace hB := hB.trans (hb.mono hB.size)
  simp only [List.take_succ_cons, List.take_zero, List.drop_succ_cons, List.drop_zero] at hF hN ⊢
  dsimp only [ext, Option.getD] at hF
  replace hb6 := hb6.below hb
  replace hsg := hsg.below hb
  refine tlStoreV (Δ := [(6, Ty.ex (.pointer (some ⟨g6, 0, none⟩)))]) hF rfl rfl rfl rfl (hF.getEx (s := 38) rfl) hb6 rfl sizeT46 (sl_one hsg.sl _) (hF.keep [6]) rfl ?_
  intro w8 hF hb6' hkx
  refine wpList_nil ?_
  replace hB := below_own hB hkx (by intro y hy; simp only [List.mem_singleton] at hy; omega)
  replace hsg := hsg.keeps hkx (seg_far hsg hb6 (by decide))
  repeat (first | with_reducible refine wp_seq ?_ | with_reducible refine nThen ?_ | with_reducible refine nBlk ?_ | with_reducible refine wp_skip ?_ | with_reducible refine wp_block ?_ | with_reducible refine wp_exit ?_ | with_reducible refine xThen ?_ | with_reducible refine xHere ?_ | with_reducible refine xFar (by decide) ?_ | with_reducible refine wp_ret ?_ | with_reducible refine rThen ?_ | with_reducible refine rBlk ?_)
  refine retCell hF rfl rfl hb6' Try.underlying41 rfl sizeT46 ?_
  refine ⟨_, rfl, ⟨u7, rfl, S, ?_, fun y hy => Nat.le_trans hw1 (hS y hy)⟩, hB⟩
  rw [tput_len]
  exact hsg
set_option maxRecDepth 100000 in
theorem tput_ty (seed : Nat) (L : List Cl) (x : Sm) (hL : L.length ≤ 1000000) (hsd : seed < 18446744073709551616) : FnR2 Try.prog 38 (Ty.tab 87 seed L) (Ty.ex (.agg (u8s x.l))) (fun w => Ty.tabO w 87 seed (tput seed L x 1)) := by
  refine ⟨fun args w => by kernel_rfl, fun w v u ⟨s, hv, hs⟩ hu => ?_⟩
  subst hv
  have hC := change15_ty seed L x 1 hL hsd (fun c => put_ty c x)
  refine enter_ty 8 [Ty.ex (.agg #[.int .u64 (seed : Int), s]), Ty.ex (.agg (u8s x.l))] Try.func38 rfl (by kernel_rfl) ⟨rfl, hu, trivial⟩ fun a hF => ?_
  have hB := Below.refl w.heap.size w
  repeat (first | with_reducible refine wp_seq ?_ | with_reducible refine nThen ?_ | with_reducible refine nBlk ?_ | with_reducible refine wp_skip ?_ | with_reducible refine wp_block ?_ | with_reducible refine wp_exit ?_ | with_reducible refine xThen ?_ | with_reducible refine xHere ?_ | with_reducible refine xFar (by decide) ?_ | with_reducible refine wp_ret ?_ | with_reducible refine rThen ?_ | with_reducible refine rBlk ?_)
  refine' reg_all hF ?_ mixed (by kernel_rfl) ?_
  rotate_left
  · repeat (first
        | exact Line.nil
        | (refine' Line.cons rfl (.no rfl rfl rfl rfl rfl rfl) ?_; rotate_left)
        | (refine' Line.cons rfl (.new rfl rfl (run_alloc_i infoT46) rfl) ?_; rotate_left)
        | ((first | refine' Line.cons rfl (.run rfl rfl ?_) ?_ | refine' Line.cons rfl (.yes rfl rfl rfl rfl ?_) ?_)
           any_goals (first | exact cMove rfl rfl | exact cAssign rfl rfl | exact cNot rfl rfl | exact cBoxTab rfl rfl | exact cBoxSum rfl rfl | exact cPickT rfl rfl rfl | exact cPickF rfl rfl rfl | exact cLss rfl rfl rfl | exact cLeq rfl rfl rfl | exact cGtr rfl rfl rfl | exact cGeq rfl rfl rfl | exact cEql rfl rfl rfl | exact cNeq rfl rfl rfl | exact cExtract rfl rfl rfl)
           rotate_left))
  intro a w1 hF hb hN
  have hBs := hB.size
  replace hB := hB.trans (hb.mono hB.size)
  dsimp only [ext, Option.getD] at hF
  repeat (first | with_reducible refine wp_seq ?_ | with_reducible refine nThen ?_ | with_reducible refine nBlk ?_ | with_reducible refine wp_skip ?_ | with_reducible refine wp_block ?_ | with_reducible refine wp_exit ?_ | with_reducible refine xThen ?_ | with_reducible refine xHere ?_ | with_reducible refine xFar (by decide) ?_ | with_reducible refine wp_ret ?_ | with_reducible refine rThen ?_ | with_reducible refine rBlk ?_)
  obtain ⟨z, ⟨g4, rfl, hg4, hb4⟩, hF⟩ := hF.open (s := 4) rfl
  have hg4 : w.heap.size ≤ g4 := hg4
  have ht : (Ty.tab 87 seed L).p w1 (.agg #[.int .u64 (seed : Int), s]) := ⟨s, rfl, (Ty.cls 87 L).below hs hB⟩
  have hw1 := hB.size
  repeat (first | with_reducible refine wp_seq ?_ | with_reducible refine nThen ?_ | with_reducible refine nBlk ?_ | with_reducible refine wp_skip ?_ | with_reducible refine wp_block ?_ | with_reducible refine wp_exit ?_ | with_reducible refine xThen ?_ | with_reducible refine xHere ?_ | with_reducible refine xFar (by decide) ?_ | with_reducible refine wp_ret ?_ | with_reducible refine rThen ?_ | with_reducible refine rBlk ?_)
  refine' region_ty 3 mixed (by kernel_rfl) hF ?_ ?_
  rotate_left
  · simp only [List.take_succ_cons, List.take_zero]
    repeat (first
        | exact Line.nil
        | (refine' Line.cons rfl (.no rfl rfl rfl rfl rfl rfl) ?_; rotate_left)
        | ((first | refine' Line.cons rfl (.run rfl rfl ?_) ?_ | refine' Line.cons rfl (.yes rfl rfl rfl rfl ?_) ?_)
           any_goals (first | exact cMove rfl rfl | exact cAssign rfl rfl | exact cNot rfl rfl | exact cLoadT46 rfl (.t rfl) | exact cLoadSum rfl (.t rfl) Try.underlying34 sizeS | exact cCallR3 rfl (.l rfl ht) (.t rfl) (.t rfl) hC (tabO_olds _ _ _) | exact cPickT rfl rfl rfl | exact cPickF rfl rfl rfl | exact cLss rfl rfl rfl | exact cLeq rfl rfl rfl | exact cGtr rfl rfl rfl | exact cGeq rfl rfl rfl | exact cEql rfl rfl rfl | exact cNeq rfl rfl rfl | exact cExtract rfl rfl rfl)
           rotate_left))
  intro a w2 hF hb hN
  have hBs := hB.size
  replace hB := hB.trans (hb.mono hB.size)
  simp only [List.take_succ_cons, List.take_zero, List.drop_succ_cons, List.drop_zero] at hF hN ⊢
  dsimp only [ext, Option.getD] at hF
  replace hb4 := hb4.below hb
  obtain ⟨z, ⟨u7, rfl, S, hsg, hS⟩, hF⟩ := hF.open (s := 7) rfl
  refine tlStoreV (Δ := [(4, Ty.ex (.pointer (some ⟨g4, 0, none⟩)))]) hF rfl rfl rfl rfl (hF.getEx (s := 7) rfl) hb4 rfl sizeT46 (sl_one hsg.sl _) (hF.keep [4]) rfl ?_
  intro w3 hF hb4' hkx
  refine wpList_nil ?_
  replace hB := below_own hB hkx (by intro y hy; simp only [List.mem_singleton] at hy; omega)
  replace hsg := hsg.keeps hkx (seg_far hsg hb4 (by decide))
  repeat (first | with_reducible refine wp_seq ?_ | with_reducible refine nThen ?_ | with_reducible refine nBlk ?_ | with_reducible refine wp_skip ?_ | with_reducible refine wp_block ?_ | with_reducible refine wp_exit ?_ | with_reducible refine xThen ?_ | with_reducible refine xHere ?_ | with_reducible refine xFar (by decide) ?_ | with_reducible refine wp_ret ?_ | with_reducible refine rThen ?_ | with_reducible refine rBlk ?_)
  refine retCell hF rfl rfl hb4' Try.underlying41 rfl sizeT46 ?_
  exact ⟨_, rfl, ⟨u7, rfl, S, hsg, fun y hy => Nat.le_trans hw1 (hS y hy)⟩, hB⟩
set_option maxRecDepth 100000 in
theorem ttake_ty (seed : Nat) (L : List Cl) (x : Sm) (hL : L.length ≤ 1000000) (hsd : seed < 18446744073709551616) : FnR2 Try.prog 39 (Ty.tab 87 seed L) (Ty.ex (.agg (u8s x.l))) (fun w => Ty.tabO w 87 seed (tput seed L x (-1))) := by
  refine ⟨fun args w => by kernel_rfl, fun w v u ⟨s, hv, hs⟩ hu => ?_⟩
  subst hv
  have hC := change15_ty seed L x (-1) hL hsd (fun c => take_ty c x)
  refine enter_ty 8 [Ty.ex (.agg #[.int .u64 (seed : Int), s]), Ty.ex (.agg (u8s x.l))] Try.func39 rfl (by kernel_rfl) ⟨rfl, hu, trivial⟩ fun a hF => ?_
  have hB := Below.refl w.heap.size w
  repeat (first | with_reducible refine wp_seq ?_ | with_reducible refine nThen ?_ | with_reducible refine nBlk ?_ | with_reducible refine wp_skip ?_ | with_reducible refine wp_block ?_ | with_reducible refine wp_exit ?_ | with_reducible refine xThen ?_ | with_reducible refine xHere ?_ | with_reducible refine xFar (by decide) ?_ | with_reducible refine wp_ret ?_ | with_reducible refine rThen ?_ | with_reducible refine rBlk ?_)
  refine' reg_all hF ?_ mixed (by kernel_rfl) ?_
  rotate_left
  · repeat (first
        | exact Line.nil
        | (refine' Line.cons rfl (.no rfl rfl rfl rfl rfl rfl) ?_; rotate_left)
        | (refine' Line.cons rfl (.new rfl rfl (run_alloc_i infoT46) rfl) ?_; rotate_left)
        | ((first | refine' Line.cons rfl (.run rfl rfl ?_) ?_ | refine' Line.cons rfl (.yes rfl rfl rfl rfl ?_) ?_)
           any_goals (first | exact cMove rfl rfl | exact cAssign rfl rfl | exact cNot rfl rfl | exact cBoxTab rfl rfl | exact cBoxSum rfl rfl | exact cPickT rfl rfl rfl | exact cPickF rfl rfl rfl | exact cLss rfl rfl rfl | exact cLeq rfl rfl rfl | exact cGtr rfl rfl rfl | exact cGeq rfl rfl rfl | exact cEql rfl rfl rfl | exact cNeq rfl rfl rfl | exact cExtract rfl rfl rfl)
           rotate_left))
  intro a w1 hF hb hN
  have hBs := hB.size
  replace hB := hB.trans (hb.mono hB.size)
  dsimp only [ext, Option.getD] at hF
  repeat (first | with_reducible refine wp_seq ?_ | with_reducible refine nThen ?_ | with_reducible refine nBlk ?_ | with_reducible refine wp_skip ?_ | with_reducible refine wp_block ?_ | with_reducible refine wp_exit ?_ | with_reducible refine xThen ?_ | with_reducible refine xHere ?_ | with_reducible refine xFar (by decide) ?_ | with_reducible refine wp_ret ?_ | with_reducible refine rThen ?_ | with_reducible refine rBlk ?_)
  obtain ⟨z, ⟨g4, rfl, hg4, hb4⟩, hF⟩ := hF.open (s := 4) rfl
  have hg4 : w.heap.size ≤ g4 := hg4
  have ht : (Ty.tab 87 seed L).p w1 (.agg #[.int .u64 (seed : Int), s]) := ⟨s, rfl, (Ty.cls 87 L).below hs hB⟩
  have hw1 := hB.size
  repeat (first | with_reducible refine wp_seq ?_ | with_reducible refine nThen ?_ | with_reducible refine nBlk ?_ | with_reducible refine wp_skip ?_ | with_reducible refine wp_block ?_ | with_reducible refine wp_exit ?_ | with_reducible refine xThen ?_ | with_reducible refine xHere ?_ | with_reducible refine xFar (by decide) ?_ | with_reducible refine wp_ret ?_ | with_reducible refine rThen ?_ | with_reducible refine rBlk ?_)
  refine' region_ty 3 mixed (by kernel_rfl) hF ?_ ?_
  rotate_left
  · simp only [List.take_succ_cons, List.take_zero]
    repeat (first
        | exact Line.nil
        | (refine' Line.cons rfl (.no rfl rfl rfl rfl rfl rfl) ?_; rotate_left)
        | ((first | refine' Line.cons rfl (.run rfl rfl ?_) ?_ | refine' Line.cons rfl (.yes rfl rfl rfl rfl ?_) ?_)
           any_goals (first | exact cMove rfl rfl | exact cAssign rfl rfl | exact cNot rfl rfl | exact cLoadT46 rfl (.t rfl) | exact cLoadSum rfl (.t rfl) Try.underlying34 sizeS | exact cCallR3 rfl (.l rfl ht) (.t rfl) (.t rfl) hC (tabO_olds _ _ _) | exact cPickT rfl rfl rfl | exact cPickF rfl rfl rfl | exact cLss rfl rfl rfl | exact cLeq rfl rfl rfl | exact cGtr rfl rfl rfl | exact cGeq rfl rfl rfl | exact cEql rfl rfl rfl | exact cNeq rfl rfl rfl | exact cExtract rfl rfl rfl)
           rotate_left))
  intro a w2 hF hb hN
  have hBs := hB.size
  replace hB := hB.trans (hb.mono hB.size)
  simp only [List.take_succ_cons, List.take_zero, List.drop_succ_cons, List.drop_zero] at hF hN ⊢
  dsimp only [ext, Option.getD] at hF
  replace hb4 := hb4.below hb
  obtain ⟨z, ⟨u7, rfl, S, hsg, hS⟩, hF⟩ := hF.open (s := 7) rfl
  refine tlStoreV (Δ := [(4, Ty.ex (.pointer (some ⟨g4, 0, none⟩)))]) hF rfl rfl rfl rfl (hF.getEx (s := 7) rfl) hb4 rfl sizeT46 (sl_one hsg.sl _) (hF.keep [4]) rfl ?_
  intro w3 hF hb4' hkx
  refine wpList_nil ?_
  replace hB := below_own hB hkx (by intro y hy; simp only [List.mem_singleton] at hy; omega)
  replace hsg := hsg.keeps hkx (seg_far hsg hb4 (by decide))
  repeat (first | with_reducible refine wp_seq ?_ | with_reducible refine nThen ?_ | with_reducible refine nBlk ?_ | with_reducible refine wp_skip ?_ | with_reducible refine wp_block ?_ | with_reducible refine wp_exit ?_ | with_reducible refine xThen ?_ | with_reducible refine xHere ?_ | with_reducible refine xFar (by decide) ?_ | with_reducible refine wp_ret ?_ | with_reducible refine rThen ?_ | with_reducible refine rBlk ?_)
  refine retCell hF rfl rfl hb4' Try.underlying41 rfl sizeT46 ?_
  exact ⟨_, rfl, ⟨u7, rfl, S, hsg, fun y hy => Nat.le_trans hw1 (hS y hy)⟩, hB⟩
/-- The count, as it is told. -/
def countN (L : List Cl) : Int := if goodN (L.length : Int) then tcount L else 0
theorem cnt_snoc (L : List Cl) {j : Nat} (h : j < L.length) (n : Int) : (L.take (j + 1)).foldl (fun n c => wrap64 (n + c.n)) n = wrap64 ((L.take j).foldl (fun n c => wrap64 (n + c.n)) n + (L.getD j default).n) := by
  rw [List.take_succ_eq_append_getElem h, List.foldl_append]
  simp [List.getD, List.getElem?_eq_getElem h]
theorem getD_take {L : List Cl} {j p : Nat} (h : j < p) : (L.take p).getD j default = L.getD j default := by
  simp only [List.getD, List.getElem?_take]
  rw [if_pos h]
set_option maxRecDepth 100000 in
set_option maxHeartbeats 2000000 in
theorem tcount_ty (seed : Nat) (L : List Cl) : Fn1 Try.prog 35 (Ty.tab 87 seed L) (Ty.ex (.int .i64 (countN L))) := by
  refine ⟨fun args w => by kernel_rfl, fun w v ⟨s, hv, hs⟩ => ?_⟩
  subst hv
  have hG := tgood_ty seed L
  unfold countN
  by_cases hgn : goodN (L.length : Int) = true
  rotate_left
  · have hgn : goodN (L.length : Int) = false := by simpa using hgn
    rw [hgn] at hG ⊢
    refine enter_ty 26 [Ty.ex (.agg #[.int .u64 (seed : Int), s])] Try.func35 rfl (by kernel_rfl) ⟨rfl, trivial⟩ fun a hF => ?_
    have hB := Below.refl w.heap.size w
    repeat (first | with_reducible refine wp_seq ?_ | with_reducible refine nThen ?_ | with_reducible refine nBlk ?_ | with_reducible refine wp_skip ?_ | with_reducible refine wp_block ?_ | with_reducible refine wp_exit ?_ | with_reducible refine xThen ?_ | with_reducible refine xHere ?_ | with_reducible refine xFar (by decide) ?_ | with_reducible refine wp_ret ?_ | with_reducible refine rThen ?_ | with_reducible refine rBlk ?_)
    refine' reg_all hF ?_ mixed (by kernel_rfl) ?_
    rotate_left
    · repeat (first
          | exact Line.nil
          | (refine' Line.cons rfl (.no rfl rfl rfl rfl rfl rfl) ?_; rotate_left)
          | ((first | refine' Line.cons rfl (.run rfl rfl ?_) ?_ | refine' Line.cons rfl (.yes rfl rfl rfl rfl ?_) ?_)
             any_goals (first | exact cMove rfl rfl | exact cAssign rfl rfl | exact cNot rfl rfl | exact cBoxTab rfl rfl | exact cPickT rfl rfl rfl | exact cPickF rfl rfl rfl | exact cLss rfl rfl rfl | exact cLeq rfl rfl rfl | exact cGtr rfl rfl rfl | exact cGeq rfl rfl rfl | exact cEql rfl rfl rfl | exact cNeq rfl rfl rfl | exact cExtract rfl rfl rfl)
             rotate_left))
    intro a w1 hF hb hN
    have hBs := hB.size
    replace hB := hB.trans (hb.mono hB.size)
    dsimp only [ext, Option.getD] at hF
    repeat (first | with_reducible refine wp_seq ?_ | with_reducible refine nThen ?_ | with_reducible refine nBlk ?_ | with_reducible refine wp_skip ?_ | with_reducible refine wp_block ?_ | with_reducible refine wp_exit ?_ | with_reducible refine xThen ?_ | with_reducible refine xHere ?_ | with_reducible refine xFar (by decide) ?_ | with_reducible refine wp_ret ?_ | with_reducible refine rThen ?_ | with_reducible refine rBlk ?_)
    refine' reg_all hF ?_ mixed (by kernel_rfl) ?_
    rotate_left
    · repeat (first
          | exact Line.nil
          | (refine' Line.cons rfl (.no rfl rfl rfl rfl rfl rfl) ?_; rotate_left)
          | ((first | refine' Line.cons rfl (.run rfl rfl ?_) ?_ | refine' Line.cons rfl (.yes rfl rfl rfl rfl ?_) ?_)
             any_goals (first | exact cMove rfl rfl | exact cAssign rfl rfl | exact cNot rfl rfl | exact cPickT rfl rfl rfl | exact cPickF rfl rfl rfl | exact cLss rfl rfl rfl | exact cLeq rfl rfl rfl | exact cGtr rfl rfl rfl | exact cGeq rfl rfl rfl | exact cEql rfl rfl rfl | exact cNeq rfl rfl rfl | exact cExtract rfl rfl rfl)
             rotate_left))
    intro a w2 hF hb hN
    have hBs := hB.size
    replace hB := hB.trans (hb.mono hB.size)
    dsimp only [ext, Option.getD] at hF
    repeat (first | with_reducible refine wp_seq ?_ | with_reducible refine nThen ?_ | with_reducible refine nBlk ?_ | with_reducible refine wp_skip ?_ | with_reducible refine wp_block ?_ | with_reducible refine wp_exit ?_ | with_reducible refine xThen ?_ | with_reducible refine xHere ?_ | with_reducible refine xFar (by decide) ?_ | with_reducible refine wp_ret ?_ | with_reducible refine rThen ?_ | with_reducible refine rBlk ?_)
    have ht : (Ty.tab 87 seed L).p w2 (.agg #[.int .u64 (seed : Int), s]) := ⟨s, rfl, (Ty.cls 87 L).below hs hB⟩
    refine' reg_all hF ?_ mixed (by kernel_rfl) ?_
    rotate_left
    · repeat (first
          | exact Line.nil
          | (refine' Line.cons rfl (.no rfl rfl rfl rfl rfl rfl) ?_; rotate_left)
          | ((first | refine' Line.cons rfl (.run rfl rfl ?_) ?_ | refine' Line.cons rfl (.yes rfl rfl rfl rfl ?_) ?_)
             any_goals (first | exact cMove rfl rfl | exact cAssign rfl rfl | exact cNot rfl rfl | exact cLoadT46 rfl (.t rfl) | exact cCallH1 rfl (.l rfl ht) hG | exact cPickT rfl rfl rfl | exact cPickF rfl rfl rfl | exact cLss rfl rfl rfl | exact cLeq rfl rfl rfl | exact cGtr rfl rfl rfl | exact cGeq rfl rfl rfl | exact cEql rfl rfl rfl | exact cNeq rfl rfl rfl | exact cExtract rfl rfl rfl)
             rotate_left))
    intro a w3 hF hb hN
    have hBs := hB.size
    replace hB := hB.trans (hb.mono hB.size)
    dsimp only [ext, Option.getD] at hF
    repeat (first | with_reducible refine wp_seq ?_ | with_reducible refine nThen ?_ | with_reducible refine nBlk ?_ | with_reducible refine wp_skip ?_ | with_reducible refine wp_block ?_ | with_reducible refine wp_exit ?_ | with_reducible refine xThen ?_ | with_reducible refine xHere ?_ | with_reducible refine xFar (by decide) ?_ | with_reducible refine wp_ret ?_ | with_reducible refine rThen ?_ | with_reducible refine rBlk ?_)
    refine cond_f hF rfl ?_
    repeat (first | with_reducible refine wp_seq ?_ | with_reducible refine nThen ?_ | with_reducible refine nBlk ?_ | with_reducible refine wp_skip ?_ | with_reducible refine wp_block ?_ | with_reducible refine wp_exit ?_ | with_reducible refine xThen ?_ | with_reducible refine xHere ?_ | with_reducible refine xFar (by decide) ?_ | with_reducible refine wp_ret ?_ | with_reducible refine rThen ?_ | with_reducible refine rBlk ?_)
    refine' reg_all hF ?_ mixed (by kernel_rfl) ?_
    rotate_left
    · repeat (first
          | exact Line.nil
          | (refine' Line.cons rfl (.no rfl rfl rfl rfl rfl rfl) ?_; rotate_left)
          | ((first | refine' Line.cons rfl (.run rfl rfl ?_) ?_ | refine' Line.cons rfl (.yes rfl rfl rfl rfl ?_) ?_)
             any_goals (first | exact cMove rfl rfl | exact cAssign rfl rfl | exact cNot rfl rfl | exact cPickT rfl rfl rfl | exact cPickF rfl rfl rfl | exact cLss rfl rfl rfl | exact cLeq rfl rfl rfl | exact cGtr rfl rfl rfl | exact cGeq rfl rfl rfl | exact cEql rfl rfl rfl | exact cNeq rfl rfl rfl | exact cExtract rfl rfl rfl)
             rotate_left))
    intro a w4 hF hb hN
    have hBs := hB.size
    replace hB := hB.trans (hb.mono hB.size)
    dsimp only [ext, Option.getD] at hF
    repeat (first | with_reducible refine wp_seq ?_ | with_reducible refine nThen ?_ | with_reducible refine nBlk ?_ | with_reducible refine wp_skip ?_ | with_reducible refine wp_block ?_ | with_reducible refine wp_exit ?_ | with_reducible refine xThen ?_ | with_reducible refine xHere ?_ | with_reducible refine xFar (by decide) ?_ | with_reducible refine wp_ret ?_ | with_reducible refine rThen ?_ | with_reducible refine rBlk ?_)
    refine ret1 hF rfl rfl fun z hz => ?_
    exact ⟨z, rfl, hz, hB⟩
  obtain ⟨N, hN, hN1, hN2⟩ := goodN_rng hgn
  have hN : L.length = N := by omega
  rw [hgn] at hG ⊢
  obtain ⟨p, hp⟩ : ∃ p, p = L.length / 3 := ⟨_, rfl⟩
  have hpl : p ≤ L.length := by omega
  have hcnt : tcount L = (L.take p).foldl (fun n c => wrap64 (n + c.n)) 0 := by unfold tcount; rw [hp]
  rw [if_pos rfl, hcnt]
  have hLp : (L.take p).length = p := by rw [List.length_take]; omega
  refine enter_ty 26 [Ty.ex (.agg #[.int .u64 (seed : Int), s])] Try.func35 rfl (by kernel_rfl) ⟨rfl, trivial⟩ fun a hF => ?_
  have hB := Below.refl w.heap.size w
  repeat (first | with_reducible refine wp_seq ?_ | with_reducible refine nThen ?_ | with_reducible refine nBlk ?_ | with_reducible refine wp_skip ?_ | with_reducible refine wp_block ?_ | with_reducible refine wp_exit ?_ | with_reducible refine xThen ?_ | with_reducible refine xHere ?_ | with_reducible refine xFar (by decide) ?_ | with_reducible refine wp_ret ?_ | with_reducible refine rThen ?_ | with_reducible refine rBlk ?_)
  refine' reg_all hF ?_ mixed (by kernel_rfl) ?_
  rotate_left
  · repeat (first
        | exact Line.nil
        | (refine' Line.cons rfl (.no rfl rfl rfl rfl rfl rfl) ?_; rotate_left)
        | ((first | refine' Line.cons rfl (.run rfl rfl ?_) ?_ | refine' Line.cons rfl (.yes rfl rfl rfl rfl ?_) ?_)
           any_goals (first | exact cMove rfl rfl | exact cAssign rfl rfl | exact cNot rfl rfl | exact cBoxTab rfl rfl | exact cPickT rfl rfl rfl | exact cPickF rfl rfl rfl | exact cLss rfl rfl rfl | exact cLeq rfl rfl rfl | exact cGtr rfl rfl rfl | exact cGeq rfl rfl rfl | exact cEql rfl rfl rfl | exact cNeq rfl rfl rfl | exact cExtract rfl rfl rfl)
           rotate_left))
  intro a w1 hF hb hN
  have hBs := hB.size
  replace hB := hB.trans (hb.mono hB.size)
  dsimp only [ext, Option.getD] at hF
  repeat (first | with_reducible refine wp_seq ?_ | with_reducible refine nThen ?_ | with_reducible refine nBlk ?_ | with_reducible refine wp_skip ?_ | with_reducible refine wp_block ?_ | with_reducible refine wp_exit ?_ | with_reducible refine xThen ?_ | with_reducible refine xHere ?_ | with_reducible refine xFar (by decide) ?_ | with_reducible refine wp_ret ?_ | with_reducible refine rThen ?_ | with_reducible refine rBlk ?_)
  refine' reg_all hF ?_ mixed (by kernel_rfl) ?_
  rotate_left
  · repeat (first
        | exact Line.nil
        | (refine' Line.cons rfl (.no rfl rfl rfl rfl rfl rfl) ?_; rotate_left)
        | ((first | refine' Line.cons rfl (.run rfl rfl ?_) ?_ | refine' Line.cons rfl (.yes rfl rfl rfl rfl ?_) ?_)
           any_goals (first | exact cMove rfl rfl | exact cAssign rfl rfl | exact cNot rfl rfl | exact cPickT rfl rfl rfl | exact cPickF rfl rfl rfl | exact cLss rfl rfl rfl | exact cLeq rfl rfl rfl | exact cGtr rfl rfl rfl | exact cGeq rfl rfl rfl | exact cEql rfl rfl rfl | exact cNeq rfl rfl rfl | exact cExtract rfl rfl rfl)
           rotate_left))
  intro a w2 hF hb hN
  have hBs := hB.size
  replace hB := hB.trans (hb.mono hB.size)
  dsimp only [ext, Option.getD] at hF
  repeat (first | with_reducible refine wp_seq ?_ | with_reducible refine nThen ?_ | with_reducible refine nBlk ?_ | with_reducible refine wp_skip ?_ | with_reducible refine wp_block ?_ | with_reducible refine wp_exit ?_ | with_reducible refine xThen ?_ | with_reducible refine xHere ?_ | with_reducible refine xFar (by decide) ?_ | with_reducible refine wp_ret ?_ | with_reducible refine rThen ?_ | with_reducible refine rBlk ?_)
  have ht : (Ty.tab 87 seed L).p w2 (.agg #[.int .u64 (seed : Int), s]) := ⟨s, rfl, (Ty.cls 87 L).below hs hB⟩
  refine' reg_all hF ?_ mixed (by kernel_rfl) ?_
  rotate_left
  · repeat (first
        | exact Line.nil
        | (refine' Line.cons rfl (.no rfl rfl rfl rfl rfl rfl) ?_; rotate_left)
        | ((first | refine' Line.cons rfl (.run rfl rfl ?_) ?_ | refine' Line.cons rfl (.yes rfl rfl rfl rfl ?_) ?_)
           any_goals (first | exact cMove rfl rfl | exact cAssign rfl rfl | exact cNot rfl rfl | exact cLoadT46 rfl (.t rfl) | exact cCallH1 rfl (.l rfl ht) hG | exact cPickT rfl rfl rfl | exact cPickF rfl rfl rfl | exact cLss rfl rfl rfl | exact cLeq rfl rfl rfl | exact cGtr rfl rfl rfl | exact cGeq rfl rfl rfl | exact cEql rfl rfl rfl | exact cNeq rfl rfl rfl | exact cExtract rfl rfl rfl)
           rotate_left))
  intro a w3 hF hb hN
  have hBs := hB.size
  replace hB := hB.trans (hb.mono hB.size)
  dsimp only [ext, Option.getD] at hF
  repeat (first | with_reducible refine wp_seq ?_ | with_reducible refine nThen ?_ | with_reducible refine nBlk ?_ | with_reducible refine wp_skip ?_ | with_reducible refine wp_block ?_ | with_reducible refine wp_exit ?_ | with_reducible refine xThen ?_ | with_reducible refine xHere ?_ | with_reducible refine xFar (by decide) ?_ | with_reducible refine wp_ret ?_ | with_reducible refine rThen ?_ | with_reducible refine rBlk ?_)
  refine cond_t hF rfl ?_
  have hs3 := (Ty.cls 87 L).below hs hB
  repeat (first | with_reducible refine wp_seq ?_ | with_reducible refine nThen ?_ | with_reducible refine nBlk ?_ | with_reducible refine wp_skip ?_ | with_reducible refine wp_block ?_ | with_reducible refine wp_exit ?_ | with_reducible refine xThen ?_ | with_reducible refine xHere ?_ | with_reducible refine xFar (by decide) ?_ | with_reducible refine wp_ret ?_ | with_reducible refine rThen ?_ | with_reducible refine rBlk ?_)
  refine' reg_all hF ?_ mixed (by kernel_rfl) ?_
  rotate_left
  · repeat (first
        | exact Line.nil
        | (refine' Line.cons rfl (.no rfl rfl rfl rfl rfl rfl) ?_; rotate_left)
        | ((first | refine' Line.cons rfl (.run rfl rfl ?_) ?_ | refine' Line.cons rfl (.yes rfl rfl rfl rfl ?_) ?_)
           any_goals (first | exact cMove rfl rfl | exact cAssign rfl rfl | exact cNot rfl rfl | exact cFldL46 rfl (.t rfl) | exact cRowOf46 rfl (.t rfl) | exact cLenH rfl (.l rfl hs3) (Ty.sl_isSl _ _ _) Try.underlying39 | exact cQuoI (n := 3) (r := p) rfl rfl rfl (by decide) hp.symm (by omega) | exact cSliceHi (k := p) rfl (.l rfl hs3) rfl Try.underlying39 info34 hpl | exact cLen rfl rfl (Ty.sl_isSl _ _ _) Try.underlying39 | exact cPickT rfl rfl rfl | exact cPickF rfl rfl rfl | exact cLss rfl rfl rfl | exact cLeq rfl rfl rfl | exact cGtr rfl rfl rfl | exact cGeq rfl rfl rfl | exact cEql rfl rfl rfl | exact cNeq rfl rfl rfl | exact cExtract rfl rfl rfl)
           rotate_left))
  intro a w4 hF hb hN
  have hBs := hB.size
  replace hB := hB.trans (hb.mono hB.size)
  dsimp only [ext, Option.getD] at hF
  repeat (first | with_reducible refine wp_seq ?_ | with_reducible refine nThen ?_ | with_reducible refine nBlk ?_ | with_reducible refine wp_skip ?_ | with_reducible refine wp_block ?_ | with_reducible refine wp_exit ?_ | with_reducible refine xThen ?_ | with_reducible refine xHere ?_ | with_reducible refine xFar (by decide) ?_ | with_reducible refine wp_ret ?_ | with_reducible refine rThen ?_ | with_reducible refine rBlk ?_)
  obtain ⟨v14, hv14, hF⟩ := hF.open (s := 14) rfl
  have hs14 : (Ty.cls 87 (L.take p)).p w4 v14 := by
    have h : SlP w4 87 v14 p ((flatC L).take (p * 65)) := hv14
    rw [flatC_take] at h
    show SlP w4 87 v14 (L.take p).length _
    rw [hLp]
    exact h
  clear hv14
  refine wp_mono (Q := fun e a wr => e = .exit 0 ∧ Fr 26 [(3, Ty.ex (.int .i64 ((L.take p).foldl (fun n c => wrap64 (n + c.n)) 0)))] a wr ∧ Below w.heap.size w wr) ?_ ?_
  · refine loop_ty (fun m a wr => ∃ j : Nat, j + m = p ∧ Fr 26 [(3, Ty.ex (.int .i64 ((L.take j).foldl (fun n c => wrap64 (n + c.n)) 0))), (14, Ty.ex v14), (15, Ty.ex (.int .i64 (p : Int))), (16, Ty.ex (.int .i64 (j : Int)))] a wr ∧ Below w.heap.size w wr ∧ (Ty.cls 87 (L.take p)).p wr v14) p ?_ ?_
    · exact ⟨0, by omega, hF.keep [3, 14, 15, 16], hB, hs14⟩
    clear hF hB hs14 hs3
    rintro m a wr ⟨j, hj, hF, hB, hs14⟩
    repeat (first | with_reducible refine wp_seq ?_ | with_reducible refine nThen ?_ | with_reducible refine nBlk ?_ | with_reducible refine wp_skip ?_ | with_reducible refine wp_block ?_ | with_reducible refine wp_exit ?_ | with_reducible refine xThen ?_ | with_reducible refine xHere ?_ | with_reducible refine xFar (by decide) ?_ | with_reducible refine wp_ret ?_ | with_reducible refine rThen ?_ | with_reducible refine rBlk ?_)
    refine' reg_all hF ?_ mixed (by kernel_rfl) ?_
    rotate_left
    · repeat (first
          | exact Line.nil
          | (refine' Line.cons rfl (.no rfl rfl rfl rfl rfl rfl) ?_; rotate_left)
          | ((first | refine' Line.cons rfl (.run rfl rfl ?_) ?_ | refine' Line.cons rfl (.yes rfl rfl rfl rfl ?_) ?_)
             any_goals (first | exact cMove rfl rfl | exact cAssign rfl rfl | exact cNot rfl rfl | exact cPickT rfl rfl rfl | exact cPickF rfl rfl rfl | exact cLss rfl rfl rfl | exact cLeq rfl rfl rfl | exact cGtr rfl rfl rfl | exact cGeq rfl rfl rfl | exact cEql rfl rfl rfl | exact cNeq rfl rfl rfl | exact cExtract rfl rfl rfl)
             rotate_left))
    intro a w5 hF hb hN
    have hBs := hB.size
    replace hB := hB.trans (hb.mono hB.size)
    dsimp only [ext, Option.getD] at hF
    repeat (first | with_reducible refine wp_seq ?_ | with_reducible refine nThen ?_ | with_reducible refine nBlk ?_ | with_reducible refine wp_skip ?_ | with_reducible refine wp_block ?_ | with_reducible refine wp_exit ?_ | with_reducible refine xThen ?_ | with_reducible refine xHere ?_ | with_reducible refine xFar (by decide) ?_ | with_reducible refine wp_ret ?_ | with_reducible refine rThen ?_ | with_reducible refine rBlk ?_)
    replace hs14 : (Ty.cls 87 (L.take p)).p w5 v14 := (Ty.cls 87 (L.take p)).below hs14 hb
    refine cond_ty hF rfl (fun hlt => ?_) (fun hge => ?_)
    rotate_left
    · have hge : ¬ j < p := by have := of_decide_eq_false hge; omega
      obtain rfl : j = p := by omega
      repeat (first | with_reducible refine wp_seq ?_ | with_reducible refine nThen ?_ | with_reducible refine nBlk ?_ | with_reducible refine wp_skip ?_ | with_reducible refine wp_block ?_ | with_reducible refine wp_exit ?_ | with_reducible refine xThen ?_ | with_reducible refine xHere ?_ | with_reducible refine xFar (by decide) ?_ | with_reducible refine wp_ret ?_ | with_reducible refine rThen ?_ | with_reducible refine rBlk ?_)
      exact ⟨rfl, hF.keep [3], hB⟩
    have hlt : j < p := by have := of_decide_eq_true hlt; omega
    have hnx := cnt_snoc L (j := j) (by omega) 0
    have hw5 := hB.size
    have hgt : (L.take p).getD j default = L.getD j default := getD_take hlt
    generalize (L.take j).foldl (fun n c => wrap64 (n + c.n)) 0 = acc at *
    obtain ⟨lcl, hlcl⟩ : ∃ c, c = L.getD j default := ⟨_, rfl⟩
    rw [← hlcl] at hnx hgt
    repeat (first | with_reducible refine wp_seq ?_ | with_reducible refine nThen ?_ | with_reducible refine nBlk ?_ | with_reducible refine wp_skip ?_ | with_reducible refine wp_block ?_ | with_reducible refine wp_exit ?_ | with_reducible refine xThen ?_ | with_reducible refine xHere ?_ | with_reducible refine xFar (by decide) ?_ | with_reducible refine wp_ret ?_ | with_reducible refine rThen ?_ | with_reducible refine rBlk ?_)
    refine' region_ty 3 mixed (by kernel_rfl) hF ?_ ?_
    rotate_left
    · simp only [List.take_succ_cons, List.take_zero]
      repeat (first
          | exact Line.nil
          | (refine' Line.cons rfl (.no rfl rfl rfl rfl rfl rfl) ?_; rotate_left)
          | (refine' Line.cons rfl (.new rfl rfl (run_alloc_i infoC34) rfl) ?_; rotate_left)
          | ((first | refine' Line.cons rfl (.run rfl rfl ?_) ?_ | refine' Line.cons rfl (.yes rfl rfl rfl rfl ?_) ?_)
             any_goals (first | exact cMove rfl rfl | exact cAssign rfl rfl | exact cNot rfl rfl | exact cIndexCl (k := j) rfl (.l rfl hs14) rfl Try.underlying39 info34 (by omega) | exact cLoadCl34 rfl (.t rfl) | exact cPickT rfl rfl rfl | exact cPickF rfl rfl rfl | exact cLss rfl rfl rfl | exact cLeq rfl rfl rfl | exact cGtr rfl rfl rfl | exact cGeq rfl rfl rfl | exact cEql rfl rfl rfl | exact cNeq rfl rfl rfl | exact cExtract rfl rfl rfl)
             rotate_left))
    intro a w6 hF hb hN
    have hBs := hB.size
    replace hB := hB.trans (hb.mono hB.size)
    simp only [List.take_succ_cons, List.take_zero, List.drop_succ_cons, List.drop_zero] at hF hN ⊢
    dsimp only [ext, Option.getD] at hF
    obtain ⟨z, ⟨g5, rfl, hg5, hb5⟩, hF⟩ := hF.open (s := 5) rfl
    have hg5 : w5.heap.size ≤ g5 := hg5
    refine tlStoreV (Δ := [(3, Ty.ex (.int .i64 acc)), (5, Ty.ex (.pointer (some ⟨g5, 0, none⟩))), (14, Ty.ex v14), (15, Ty.ex (.int .i64 (p : Int))), (16, Ty.ex (.int .i64 (j : Int)))]) hF rfl rfl rfl rfl (hF.getEx (s := 19) rfl) hb5 (clSz _ _) (by show _ = some (Cl.a _).size; rw [Cl.size]; exact info34) (Cl.one _) (hF.keep [3, 5, 14, 15, 16]) rfl ?_
    intro w7 hF hb5' hkx
    refine wpList_nil ?_
    have hb57 : Below w5.heap.size w5 w7 := below_own hb hkx (by intro y hy; simp only [List.mem_singleton] at hy; omega)
    replace hs14 : (Ty.cls 87 (L.take p)).p w7 v14 := (Ty.cls 87 (L.take p)).below hs14 hb57
    replace hB := below_own hB hkx (by intro y hy; simp only [List.mem_singleton] at hy; omega)
    have h5 : (Ty.at_ 87 lcl.enc).p w7 (.pointer (some ⟨g5, 0, none⟩)) := by
      have h := blk_at hb5'
      rw [hgt] at h
      exact h
    repeat (first | with_reducible refine wp_seq ?_ | with_reducible refine nThen ?_ | with_reducible refine nBlk ?_ | with_reducible refine wp_skip ?_ | with_reducible refine wp_block ?_ | with_reducible refine wp_exit ?_ | with_reducible refine xThen ?_ | with_reducible refine xHere ?_ | with_reducible refine xFar (by decide) ?_ | with_reducible refine wp_ret ?_ | with_reducible refine rThen ?_ | with_reducible refine rBlk ?_)
    refine' reg_all hF ?_ mixed (by kernel_rfl) ?_
    rotate_left
    · repeat (first
          | exact Line.nil
          | (refine' Line.cons rfl (.no rfl rfl rfl rfl rfl rfl) ?_; rotate_left)
          | ((first | refine' Line.cons rfl (.run rfl rfl ?_) ?_ | refine' Line.cons rfl (.yes rfl rfl rfl rfl ?_) ?_)
             any_goals (first | exact cMove rfl rfl | exact cAssign rfl rfl | exact cNot rfl rfl | exact cFldN34 (c := lcl) rfl (.l rfl h5) | exact cLoadN rfl (.t rfl) | exact OpOk.v (cAddW rfl rfl rfl) (congrArg (Value.int .i64) (wrap_is _)) | exact cPickT rfl rfl rfl | exact cPickF rfl rfl rfl | exact cLss rfl rfl rfl | exact cLeq rfl rfl rfl | exact cGtr rfl rfl rfl | exact cGeq rfl rfl rfl | exact cEql rfl rfl rfl | exact cNeq rfl rfl rfl | exact cExtract rfl rfl rfl)
             rotate_left))
    intro a w8 hF hb hN
    have hBs := hB.size
    replace hB := hB.trans (hb.mono hB.size)
    dsimp only [ext, Option.getD] at hF
    repeat (first | with_reducible refine wp_seq ?_ | with_reducible refine nThen ?_ | with_reducible refine nBlk ?_ | with_reducible refine wp_skip ?_ | with_reducible refine wp_block ?_ | with_reducible refine wp_exit ?_ | with_reducible refine xThen ?_ | with_reducible refine xHere ?_ | with_reducible refine xFar (by decide) ?_ | with_reducible refine wp_ret ?_ | with_reducible refine rThen ?_ | with_reducible refine rBlk ?_)
    replace hs14 : (Ty.cls 87 (L.take p)).p w8 v14 := (Ty.cls 87 (L.take p)).below hs14 hb
    refine' reg_all hF ?_ mixed (by kernel_rfl) ?_
    rotate_left
    · repeat (first
          | exact Line.nil
          | (refine' Line.cons rfl (.no rfl rfl rfl rfl rfl rfl) ?_; rotate_left)
          | ((first | refine' Line.cons rfl (.run rfl rfl ?_) ?_ | refine' Line.cons rfl (.yes rfl rfl rfl rfl ?_) ?_)
             any_goals (first | exact cMove rfl rfl | exact cAssign rfl rfl | exact cNot rfl rfl | exact cAdd (r := ((j + 1 : Nat) : Int)) rfl rfl rfl (by omega) | exact cPickT rfl rfl rfl | exact cPickF rfl rfl rfl | exact cLss rfl rfl rfl | exact cLeq rfl rfl rfl | exact cGtr rfl rfl rfl | exact cGeq rfl rfl rfl | exact cEql rfl rfl rfl | exact cNeq rfl rfl rfl | exact cExtract rfl rfl rfl)
             rotate_left))
    intro a w9 hF hb hN
    have hBs := hB.size
    replace hB := hB.trans (hb.mono hB.size)
    dsimp only [ext, Option.getD] at hF
    repeat (first | with_reducible refine wp_seq ?_ | with_reducible refine nThen ?_ | with_reducible refine nBlk ?_ | with_reducible refine wp_skip ?_ | with_reducible refine wp_block ?_ | with_reducible refine wp_exit ?_ | with_reducible refine xThen ?_ | with_reducible refine xHere ?_ | with_reducible refine xFar (by decide) ?_ | with_reducible refine wp_ret ?_ | with_reducible refine rThen ?_ | with_reducible refine rBlk ?_)
    refine ⟨m - 1, by omega, j + 1, by omega, ?_, hB, (Ty.cls 87 (L.take p)).below hs14 hb⟩
    rw [hnx]
    exact hF.keep [3, 14, 15, 16]
  clear hF hB hs14 hs3
  rintro e a wr ⟨rfl, hF, hB⟩
  repeat (first | with_reducible refine wp_seq ?_ | with_reducible refine nThen ?_ | with_reducible refine nBlk ?_ | with_reducible refine wp_skip ?_ | with_reducible refine wp_block ?_ | with_reducible refine wp_exit ?_ | with_reducible refine xThen ?_ | with_reducible refine xHere ?_ | with_reducible refine xFar (by decide) ?_ | with_reducible refine wp_ret ?_ | with_reducible refine rThen ?_ | with_reducible refine rBlk ?_)
  refine' reg_all hF ?_ mixed (by kernel_rfl) ?_
  rotate_left
  · repeat (first
        | exact Line.nil
        | (refine' Line.cons rfl (.no rfl rfl rfl rfl rfl rfl) ?_; rotate_left)
        | ((first | refine' Line.cons rfl (.run rfl rfl ?_) ?_ | refine' Line.cons rfl (.yes rfl rfl rfl rfl ?_) ?_)
           any_goals (first | exact cMove rfl rfl | exact cAssign rfl rfl | exact cNot rfl rfl | exact cPickT rfl rfl rfl | exact cPickF rfl rfl rfl | exact cLss rfl rfl rfl | exact cLeq rfl rfl rfl | exact cGtr rfl rfl rfl | exact cGeq rfl rfl rfl | exact cEql rfl rfl rfl | exact cNeq rfl rfl rfl | exact cExtract rfl rfl rfl)
           rotate_left))
  intro a w5 hF hb hN
  have hBs := hB.size
  replace hB := hB.trans (hb.mono hB.size)
  dsimp only [ext, Option.getD] at hF
  repeat (first | with_reducible refine wp_seq ?_ | with_reducible refine nThen ?_ | with_reducible refine nBlk ?_ | with_reducible refine wp_skip ?_ | with_reducible refine wp_block ?_ | with_reducible refine wp_exit ?_ | with_reducible refine xThen ?_ | with_reducible refine xHere ?_ | with_reducible refine xFar (by decide) ?_ | with_reducible refine wp_ret ?_ | with_reducible refine rThen ?_ | with_reducible refine rBlk ?_)
  refine ret1 hF rfl rfl fun z hz => ?_
  exact ⟨z, rfl, hz, hB⟩
end Go.Proofs.Ytmlbkcpmgcjblaa

/- Layer 10: the walks of BinarySearchFunc, has, Has. -/
namespace Go.Proofs.Ytmlbkcpmgcjblaa
open Go.RowKit

end Go.Proofs.Ytmlbkcpmgcjblaa

/- Layer 10: the walks of IndexFunc, DeleteFunc, Minus, Both. -/
namespace Go.Proofs.Ytmlbkcpmgcjblaa
open Go.RowKit

theorem PredK.at_ {P : Program} {f : FuncId} {cb : Array Value} {S : List Nat} {w w0 : World} {p : Sm → Bool} (h : PredK P f cb S w p) (k : Keeps S w w0) (x : Sm) : ∀ W, Below w0.heap.size w0 W → Ret P f (#[.agg (u8s x.l)] ++ cb) W (Ty.ex (.bool (p x))) := fun W hb => h W x (k.trans (Keeps.of_below hb))
end Go.Proofs.Ytmlbkcpmgcjblaa

/- Layer 10: the walks of Minus, Both, Either, Add. -/
namespace Go.Proofs.Ytmlbkcpmgcjblaa
open Go.RowKit

end Go.Proofs.Ytmlbkcpmgcjblaa

/- Layer 10: the example that all statements tell; the walks of SetParts, SetLaws. -/
namespace Go.Proofs.Ytmlbkcpmgcjblaa
open Go.RowKit

abbrev s1 : Sm := sm1 1 (by decide)
abbrev s2 : Sm := sm1 2 (by decide)
theorem s_one (x : Sm) : srt [x] := List.pairwise_singleton _ _
end Go.Proofs.Ytmlbkcpmgcjblaa

/- Layer 15, plainly: how many a table tells; the order in which sums are put in; one table less another. -/
namespace Go.Proofs.Ytmlbkcpmgcjblaa
open Go.RowKit

/-! ### The count -/
def sumC (L : List Cl) : Int := (L.map Cl.n).sum
theorem foldC (L : List Cl) : ∀ a : Int, wrap64 (L.foldl (fun n c => wrap64 (n + c.n)) a) = wrap64 (a + sumC L) := by
  unfold sumC
  induction L with
  | nil => intro a; simp
  | cons c L ih =>
    intro a
    rw [List.foldl_cons, ih, wrap64_addl, List.map_cons, List.sum_cons, Int.add_assoc]
theorem foldC_w (L : List Cl) : ∀ a : Int, wrap64 a = a → wrap64 (L.foldl (fun n c => wrap64 (n + c.n)) a) = L.foldl (fun n c => wrap64 (n + c.n)) a := by
  induction L with
  | nil => intro a h; exact h
  | cons c L ih => intro a _; rw [List.foldl_cons]; exact ih _ (wrap64_idem _)
theorem tcount_sum (L : List Cl) : tcount L = wrap64 (sumC (L.take (L.length / 3))) := by
  unfold tcount
  rw [← foldC_w _ 0 (w64_in (by omega)), foldC, Int.zero_add]
theorem sumC_set : ∀ (L : List Cl) (i : Nat) (c : Cl), i < L.length → sumC (L.set i c) = sumC L - (L.getD i default).n + c.n
  | [], i, c, h => by simp at h
  | d :: L, 0, c, _ => by
    simp only [sumC, List.set_cons_zero, List.map_cons, List.sum_cons, List.getD_cons_zero]
    omega
  | d :: L, i + 1, c, h => by
    have := sumC_set L i c (by simpa using h)
    simp only [sumC, List.set_cons_succ, List.map_cons, List.sum_cons, List.getD_cons_succ] at this ⊢
    omega
theorem take_at_lo (L : List Cl) {i p : Nat} (h : i < p) (x : Sm) (n : Int) : (tputAt L i x n).take p = tputAt (L.take p) i x n := by
  unfold tputAt
  rw [List.take_set, getD_take h]
theorem take_at_hi (L : List Cl) {i p : Nat} (h : p ≤ i) (x : Sm) (n : Int) : (tputAt L i x n).take p = L.take p := by
  unfold tputAt
  rw [List.take_set, List.set_eq_of_length_le (by rw [List.length_take]; omega)]
theorem sumC_at (L : List Cl) {i : Nat} (h : i < L.length) (x : Sm) (n : Int) : wrap64 (sumC (tputAt L i x n)) = wrap64 (sumC L + n) := by
  unfold tputAt
  rw [sumC_set L i _ h]
  generalize L.getD i default = c
  show wrap64 (sumC L - c.n + wrap64 (c.n + n)) = _
  rw [wrap64_addr]
  congr 1
  omega
theorem tcount_put {seed : Nat} {L : List Cl} (hg : goodN (L.length : Int) = true) (x : Sm) (n : Int) : tcount (tput seed L x n) = wrap64 (tcount L + n) := by
  have hr := of_decide_eq_true hg
  rw [tcount_sum, tcount_sum, tput_len]
  unfold tput placesN
  rw [if_pos hg, Int.toNat_natCast]
  have hp : 0 < L.length / 3 := by omega
  obtain ⟨p, hpe⟩ : ∃ p, p = L.length / 3 := ⟨_, rfl⟩
  rw [← hpe] at hp ⊢
  generalize placeS seed x = s
  have e : plc s p 3 = [0 * p + wordF s.l 0 8 % p, 1 * p + wordF s.l 1 8 % p, 2 * p + wordF s.l 2 8 % p] := rfl
  have h0 := Nat.mod_lt (wordF s.l 0 8) hp
  rw [e]
  simp only [List.foldl_cons, List.foldl_nil]
  rw [take_at_hi _ (by omega), take_at_hi _ (by omega), take_at_lo _ (by omega), sumC_at _ (by rw [List.length_take]; omega), wrap64_addl]
theorem tcount_w (L : List Cl) : wrap64 (tcount L) = tcount L := by rw [tcount_sum, wrap64_idem]
theorem tcount_all {seed : Nat} (n : Int) : ∀ (xs : List Sm) (L : List Cl), goodN (L.length : Int) = true → tcount (tall seed L xs n) = wrap64 (tcount L + n * xs.length)
  | [], L, _ => by
    show tcount L = _
    rw [List.length_nil, show tcount L + n * ((0 : Nat) : Int) = tcount L by simp, tcount_w]
  | x :: xs, L, hg => by
    show tcount (tall seed (tput seed L x n) xs n) = _
    rw [tcount_all n xs _ (by rw [tput_len]; exact hg), tcount_put hg, wrap64_addl, List.length_cons, Int.natCast_add, Int.mul_add]
    congr 1
    omega
theorem sumC_zero (n : Nat) : sumC (tzero n) = 0 := by
  unfold sumC tzero
  rw [List.map_replicate, show Cl.zero.n = 0 from rfl]
  induction n with
  | zero => rfl
  | succ n ih => rw [List.replicate_succ, List.sum_cons, ih]; rfl
theorem tcount_zero (n : Nat) : tcount (tzero n) = 0 := by
  rw [tcount_sum, tzero_len]
  have : (tzero n).take (n / 3) = tzero (n / 3) := by
    unfold tzero
    rw [List.take_replicate, Nat.min_eq_left (Nat.div_le_self n 3)]
  rw [this, sumC_zero]
  exact w64_in (by omega)
theorem ofL_len {seed : Nat} {n : Int} {D : List Sm} (hg : goodN n = true) : (ofL seed n D).length = n.toNat := by
  unfold ofL
  rw [if_pos hg, tall_len, tzero_len]
theorem ofL_good {seed : Nat} {n : Int} {D : List Sm} (hg : goodN n = true) : goodN ((ofL seed n D).length : Int) = true := by
  rw [ofL_len hg]
  have := of_decide_eq_true hg
  rwa [Int.toNat_of_nonneg (by omega)]
theorem ofL_count {seed : Nat} {n : Int} {D : List Sm} (hg : goodN n = true) (hD : D.length ≤ 1000000) : countN (ofL seed n D) = (setL D).length := by
  have hr := of_decide_eq_true hg
  have hl := setL_len D
  unfold countN
  rw [ofL_good hg, if_pos rfl]
  unfold ofL
  rw [if_pos hg, tcount_all _ _ _ (by rw [tzero_len, Int.toNat_of_nonneg (by omega)]; exact hg), tcount_zero]
  rw [show (0 : Int) + 1 * (setL D).length = (setL D).length by omega]
  exact w64_in (by omega)

/-! ### A table less itself -/
theorem tminus_self (A : List Cl) : allZ (tminus A A) = true := allZ_all fun k hk => by
  rw [tminus_len rfl] at hk
  rw [tminus_get rfl hk, minus_self]
theorem allZ_eq {L : List Cl} (h : allZ L = true) : L = tzero L.length := list_extD (by rw [tzero_len]) fun j hj => by
  rw [allZ_iff.1 h j hj, tzero_get hj]
theorem allZ_count {L : List Cl} (h : allZ L = true) : countN L = 0 := by
  rw [allZ_eq h]
  unfold countN
  rw [tcount_zero]
  split <;> rfl

end Go.Proofs.Ytmlbkcpmgcjblaa

/- Layer 15 by types: a table in a variable; the example that all its statements tell. -/
namespace Go.Proofs.Ytmlbkcpmgcjblaa
open Go.RowKit

/-- The address of a table that is read. -/
def Ty.tabP (t e : TypeId) (seed : Nat) (L : List Cl) : Ty := ⟨fun w v => ∃ s, (Ty.at_ t [.int .u64 (seed : Int), s]).p w v ∧ SlP w e s L.length (flatC L), fun u => u == t || u == e, fun {w w' v S} ⟨s, h1, h2⟩ k hA => by
  refine ⟨s, (Ty.at_ t _).st h1 k fun b hb hl => ?_, (Ty.cls e L).st h2 k fun b hb hl => ?_⟩
  · obtain ⟨cs, t', fr, h3, h4⟩ := hA b hb hl
    exact ⟨cs, t', fr, h3, (Bool.or_eq_false_iff.1 h4).1⟩
  · obtain ⟨cs, t', fr, h3, h4⟩ := hA b hb hl
    exact ⟨cs, t', fr, h3, (Bool.or_eq_false_iff.1 h4).2⟩⟩
section
variable {w0 : World} {Γ : Ctx} {o : Oper} {x : Operand} {e : TypeId} {seed : Nat} {L : List Cl}
theorem cLoadTab46 (ho : o.op = .load 41 x) (hx : Has w0 Γ x (Ty.tabP 41 e seed L)) : OpOk Try.prog w0 Γ o (Ty.tab e seed L) :=
  .val fun a w hb hs => by
    obtain ⟨v, h1, s, h2, h5⟩ := hx.see hs (by simp [ho, Op.operands]) hb
    obtain ⟨ad, rfl, h3⟩ := pts_at _ _ w v h2
    refine ⟨.agg #[.int .u64 (seed : Int), s], ⟨s, rfl, h5⟩, ?_⟩
    have h4 := run_loadVar_rd (P := Try.prog) h3 Try.underlying41 rfl (by rw [sizeT46]; rfl)
    unfold execOp
    simp [ho, h1, Instr.loadAt, Instr.sureAddr, h4]
theorem cLoadTab83 (ho : o.op = .load 52 x) (hx : Has w0 Γ x (Ty.tabP 52 e seed L)) : OpOk Try.prog w0 Γ o (Ty.tab e seed L) :=
  .val fun a w hb hs => by
    obtain ⟨v, h1, s, h2, h5⟩ := hx.see hs (by simp [ho, Op.operands]) hb
    obtain ⟨ad, rfl, h3⟩ := pts_at _ _ w v h2
    refine ⟨.agg #[.int .u64 (seed : Int), s], ⟨s, rfl, h5⟩, ?_⟩
    have h4 := run_loadVar_rd (P := Try.prog) h3 Try.underlying52 rfl (by rw [sizeT83]; rfl)
    unfold execOp
    simp [ho, h1, Instr.loadAt, Instr.sureAddr, h4]
end
section
variable {P : Program} {ops : Array Oper} {Q : Exit → Act → World → Prop} {N : Nat} {Γ : Ctx} {a : Act} {w : World} {o1 o2 : Oper} {rest : List Oper}
/-- A variable made, and a table stored there. -/
theorem tlNewTab {T e : TypeId} {p q : Nat} {seed : Nat} {L : List Cl} {τ : Ty} (hF : Fr N Γ a w) (h1 : o1.op = .alloc T) (hg1 : o1.guard = none) (hd1 : o1.dst = some p) (hp : p < N) (hpq : Nat.beq p q = false)
    (hz : ∀ w : World, (Instr.alloc T true (.tuple #[])).run P w = .ok (.pointer (some ⟨w.heap.size, 0, none⟩)) (w.alloc (.cells #[.int .u64 0, .slice none 0 0] T)))
    (h2 : o2.op = .store T (.tmp p) (.tmp q)) (hg2 : o2.guard = none) (hd2 : o2.dst = none) (hq : look Γ q = some τ) (hτ : ∀ w v, τ.p w v → (Ty.tab e seed L).p w v) (hi : (P.info? T).map (·.size) = some 2)
    (hk : ∀ a' w', Fr N ((p, Ty.tabP T e seed L) :: Γ) a' w' → Below w.heap.size w w' → wpList P ops Q rest a' w') : wpList P ops Q (o1 :: o2 :: rest) a w := by
  obtain ⟨v, hv2, hFo⟩ := hF.open hq
  obtain ⟨s, rfl, hs⟩ := hτ _ _ hv2
  refine wpList_plain hg1 fun K hK => ?_
  unfold Oper.wp execOp
  simp only [h1, Sem.run_bind, hz, Result.andThen_ok, Sem.run_pure]
  refine hK _ _ ?_
  rw [hd1]
  have hb1 : Below w.heap.size w (w.alloc (.cells #[.int .u64 0, .slice none 0 0] T)) := ((Keeps.refl [] w).alloc _).below
  have hF1 : Fr N ((p, Ty.ex (.pointer (some ⟨w.heap.size, 0, none⟩))) :: (q, Ty.ex (.agg #[.int .u64 (seed : Int), s])) :: Γ) (a.put (some p) (.pointer (some ⟨w.heap.size, 0, none⟩))) (w.alloc (.cells #[.int .u64 0, .slice none 0 0] T)) := hFo.put hp hb1 rfl
  have hv3 := hF1.getEx (s := q) (v := .agg #[.int .u64 (seed : Int), s]) (by rw [look]; simp only [hpq, cond_false]; exact look_same _ _ _)
  refine tlStoreV (Δ := []) hF1 hg2 hd2 h2 (look_same _ _ _) hv3 (Blk.new w _ _) rfl (by rw [hi]; rfl) (sl_one hs _) (hF1.keep []) rfl ?_
  intro w' _ hb' hkx
  have hB := below_own hb1 hkx (by intro y hy; simp only [List.mem_singleton] at hy; omega)
  refine hk _ _ (hF.put hp hB ⟨s, ⟨w.heap.size, 0, _, (0, 0), rfl, hb', fun j u h => by simpa [Value.cells] using h⟩, (Ty.cls e L).below hs hB⟩) hB
end

theorem newE_good {n : Int} (h : goodN n = true) : newE n = .int .i64 0 := by unfold newE; rw [h]; rfl
theorem newE_bad {n : Int} (h : goodN n = false) : newE n = .int .i64 1 := by unfold newE; rw [h]; rfl
theorem newS_good {seed : Nat} {n : Int} (h : goodN n = true) : newS seed n = seed := by unfold newS; rw [h]; rfl
theorem minOk_good {s : Nat} {A B : List Cl} (h : goodN (A.length : Int) = true) (hl : A.length = B.length) : minOk s s A B = true := by unfold minOk; rw [h, decide_eq_true hl, decide_eq_true rfl]; rfl
theorem g12 : goodN 12 = true := by decide
set_option maxRecDepth 100000 in
set_option maxHeartbeats 2000000 in
theorem awake15_ty : Fn0 Try.prog 29 (Ty.ex (.bool true)) := by
  refine ⟨fun args w => by kernel_rfl, fun w => ?_⟩
  have hfew := few15_ty [1] (Ty.sl 3 1 [ivz 1]) (reads_sl _ _ _) (by simp)
  have eD : fewL [1] = [fewS 1] := setL_self (s_one _)
  rw [eD] at hfew
  have hof := tof_ty 5 12 [fewS 1] (by simp) (by omega)
  have hcn : countN (ofL 5 12 [fewS 1]) = 1 := by rw [ofL_count g12 (by simp), setL_self (s_one _)]; rfl
  have hgA : goodN ((ofL 5 12 [fewS 1]).length : Int) = true := ofL_good g12
  rw [newE_good g12, newS_good g12] at hof
  generalize ofL 5 12 [fewS 1] = A at *
  have hzA : allZ A = false := by
    cases hz : allZ A with
    | false => rfl
    | true => rw [allZ_count hz] at hcn; cases hcn
  have hmn := tminus_ty 5 5 A A
  have hmo := minOk_good (s := 5) hgA (rfl : A.length = A.length)
  rw [show minL 5 5 A A = tminus A A by unfold minL; rw [hmo]; rfl, show minS 5 5 A A = 5 by unfold minS; rw [hmo]; rfl, show minE 5 5 A A = .int .i64 0 by unfold minE; rw [hmo]; rfl] at hmn
  have hz1 := tzero_ty 5 (tminus A A)
  rw [tminus_self, tminus_len rfl, hgA] at hz1
  have hz2 := tzero_ty 5 A
  rw [hzA, hgA] at hz2
  have hct := tcount_ty 5 A
  rw [hcn] at hct
  generalize tminus A A = C at *
  generalize fewS 1 = X at *
  refine enter_ty 50 [] Try.func29 rfl (by kernel_rfl) trivial fun a hF => ?_
  have hB := Below.refl w.heap.size w
  repeat (first | with_reducible refine wp_seq ?_ | with_reducible refine nThen ?_ | with_reducible refine nBlk ?_ | with_reducible refine wp_skip ?_ | with_reducible refine wp_block ?_ | with_reducible refine wp_exit ?_ | with_reducible refine xThen ?_ | with_reducible refine xHere ?_ | with_reducible refine xFar (by decide) ?_ | with_reducible refine wp_ret ?_ | with_reducible refine rThen ?_ | with_reducible refine rBlk ?_)
  refine' reg_all hF ?_ mixed (by kernel_rfl) ?_
  rotate_left
  · repeat (first
        | exact Line.nil
        | (refine' Line.cons rfl (.no rfl rfl rfl rfl rfl rfl) ?_; rotate_left)
        | ((first | refine' Line.cons rfl (.run rfl rfl ?_) ?_ | refine' Line.cons rfl (.yes rfl rfl rfl rfl ?_) ?_)
           any_goals (first | exact cMove rfl rfl | exact cAssign rfl rfl | exact cNot rfl rfl | exact cPickT rfl rfl rfl | exact cPickF rfl rfl rfl | exact cLss rfl rfl rfl | exact cLeq rfl rfl rfl | exact cGtr rfl rfl rfl | exact cGeq rfl rfl rfl | exact cEql rfl rfl rfl | exact cNeq rfl rfl rfl | exact cExtract rfl rfl rfl)
           rotate_left))
  intro a w1 hF hb hN
  have hBs := hB.size
  replace hB := hB.trans (hb.mono hB.size)
  dsimp only [ext, Option.getD] at hF
  repeat (first | with_reducible refine wp_seq ?_ | with_reducible refine nThen ?_ | with_reducible refine nBlk ?_ | with_reducible refine wp_skip ?_ | with_reducible refine wp_block ?_ | with_reducible refine wp_exit ?_ | with_reducible refine xThen ?_ | with_reducible refine xHere ?_ | with_reducible refine xFar (by decide) ?_ | with_reducible refine wp_ret ?_ | with_reducible refine rThen ?_ | with_reducible refine rBlk ?_)
  refine' reg_all hF ?_ mixed (by kernel_rfl) ?_
  rotate_left
  · repeat (first
        | exact Line.nil
        | (refine' Line.cons rfl (.no rfl rfl rfl rfl rfl rfl) ?_; rotate_left)
        | ((first | refine' Line.cons rfl (.run rfl rfl ?_) ?_ | refine' Line.cons rfl (.yes rfl rfl rfl rfl ?_) ?_)
           any_goals (first | exact cMove rfl rfl | exact cAssign rfl rfl | exact cNot rfl rfl | exact cBuildV (vs := [ivz 1]) rfl (parts1v rfl rfl) Try.underlying66 infoInt rfl (by simp [Value.cells, ivz]) (by decide) (by simp [maxLen]) | exact cCallS1 rfl (.t rfl) hfew | exact cPickT rfl rfl rfl | exact cPickF rfl rfl rfl | exact cLss rfl rfl rfl | exact cLeq rfl rfl rfl | exact cGtr rfl rfl rfl | exact cGeq rfl rfl rfl | exact cEql rfl rfl rfl | exact cNeq rfl rfl rfl | exact cExtract rfl rfl rfl)
           rotate_left))
  intro a w2 hF hb hN
  have hBs := hB.size
  replace hB := hB.trans (hb.mono hB.size)
  dsimp only [ext, Option.getD] at hF
  repeat (first | with_reducible refine wp_seq ?_ | with_reducible refine nThen ?_ | with_reducible refine nBlk ?_ | with_reducible refine wp_skip ?_ | with_reducible refine wp_block ?_ | with_reducible refine wp_exit ?_ | with_reducible refine xThen ?_ | with_reducible refine xHere ?_ | with_reducible refine xFar (by decide) ?_ | with_reducible refine wp_ret ?_ | with_reducible refine rThen ?_ | with_reducible refine rBlk ?_)
  repeat (first | with_reducible refine wp_seq ?_ | with_reducible refine nThen ?_ | with_reducible refine nBlk ?_ | with_reducible refine wp_skip ?_ | with_reducible refine wp_block ?_ | with_reducible refine wp_exit ?_ | with_reducible refine xThen ?_ | with_reducible refine xHere ?_ | with_reducible refine xFar (by decide) ?_ | with_reducible refine wp_ret ?_ | with_reducible refine rThen ?_ | with_reducible refine rBlk ?_)
  refine wp_region_lit ?_
  refine' tlOp hF rfl rfl rfl ?_ ?_
  rotate_left
  · first | exact cCallR3 rfl (.t rfl) (.t rfl) (Has.c (.t rfl) seg_sl) hof (tabE_olds _ _ _ _) | exact cMove rfl rfl | exact cAssign rfl rfl | exact cPickT rfl rfl rfl | exact cPickF rfl rfl rfl | exact cNot rfl rfl | exact cLss rfl rfl rfl | exact cLeq rfl rfl rfl | exact cGtr rfl rfl rfl | exact cGeq rfl rfl rfl | exact cEql rfl rfl rfl | exact cNeq rfl rfl rfl | exact cExtract rfl rfl rfl
  intro a w3_0 hF hb
  have hBs := hB.size
  replace hB := hB.trans (hb.mono hB.size)
  try (refine wpList_nil ?_)
  repeat (first | with_reducible refine wp_seq ?_ | with_reducible refine nThen ?_ | with_reducible refine nBlk ?_ | with_reducible refine wp_skip ?_ | with_reducible refine wp_block ?_ | with_reducible refine wp_exit ?_ | with_reducible refine xThen ?_ | with_reducible refine xHere ?_ | with_reducible refine xFar (by decide) ?_ | with_reducible refine wp_ret ?_ | with_reducible refine rThen ?_ | with_reducible refine rBlk ?_)
  refine' tlOp hF rfl rfl rfl ?_ ?_
  rotate_left
  · first | exact cCallR3 rfl (.t rfl) (.t rfl) (Has.c (.t rfl) seg_sl) hof (tabE_olds _ _ _ _) | exact cMove rfl rfl | exact cAssign rfl rfl | exact cPickT rfl rfl rfl | exact cPickF rfl rfl rfl | exact cNot rfl rfl | exact cLss rfl rfl rfl | exact cLeq rfl rfl rfl | exact cGtr rfl rfl rfl | exact cGeq rfl rfl rfl | exact cEql rfl rfl rfl | exact cNeq rfl rfl rfl | exact cExtract rfl rfl rfl
  intro a w3_1 hF hb
  have hBs := hB.size
  replace hB := hB.trans (hb.mono hB.size)
  try (refine wpList_nil ?_)
  repeat (first | with_reducible refine wp_seq ?_ | with_reducible refine nThen ?_ | with_reducible refine nBlk ?_ | with_reducible refine wp_skip ?_ | with_reducible refine wp_block ?_ | with_reducible refine wp_exit ?_ | with_reducible refine xThen ?_ | with_reducible refine xHere ?_ | with_reducible refine xFar (by decide) ?_ | with_reducible refine wp_ret ?_ | with_reducible refine rThen ?_ | with_reducible refine rBlk ?_)
  refine' tlOp hF rfl rfl rfl ?_ ?_
  rotate_left
  · first | exact cCallR3 rfl (.t rfl) (.t rfl) (Has.c (.t rfl) seg_sl) hof (tabE_olds _ _ _ _) | exact cMove rfl rfl | exact cAssign rfl rfl | exact cPickT rfl rfl rfl | exact cPickF rfl rfl rfl | exact cNot rfl rfl | exact cLss rfl rfl rfl | exact cLeq rfl rfl rfl | exact cGtr rfl rfl rfl | exact cGeq rfl rfl rfl | exact cEql rfl rfl rfl | exact cNeq rfl rfl rfl | exact cExtract rfl rfl rfl
  intro a w3_2 hF hb
  have hBs := hB.size
  replace hB := hB.trans (hb.mono hB.size)
  try (refine wpList_nil ?_)
  repeat (first | with_reducible refine wp_seq ?_ | with_reducible refine nThen ?_ | with_reducible refine nBlk ?_ | with_reducible refine wp_skip ?_ | with_reducible refine wp_block ?_ | with_reducible refine wp_exit ?_ | with_reducible refine xThen ?_ | with_reducible refine xHere ?_ | with_reducible refine xFar (by decide) ?_ | with_reducible refine wp_ret ?_ | with_reducible refine rThen ?_ | with_reducible refine rBlk ?_)
  refine' tlOp hF rfl rfl rfl ?_ ?_
  rotate_left
  · first | exact cExtT rfl rfl | exact cMove rfl rfl | exact cAssign rfl rfl | exact cPickT rfl rfl rfl | exact cPickF rfl rfl rfl | exact cNot rfl rfl | exact cLss rfl rfl rfl | exact cLeq rfl rfl rfl | exact cGtr rfl rfl rfl | exact cGeq rfl rfl rfl | exact cEql rfl rfl rfl | exact cNeq rfl rfl rfl | exact cExtract rfl rfl rfl
  intro a w3_t hF hb
  have hBs := hB.size
  replace hB := hB.trans (hb.mono hB.size)
  try (refine wpList_nil ?_)
  repeat (first | with_reducible refine wp_seq ?_ | with_reducible refine nThen ?_ | with_reducible refine nBlk ?_ | with_reducible refine wp_skip ?_ | with_reducible refine wp_block ?_ | with_reducible refine wp_exit ?_ | with_reducible refine xThen ?_ | with_reducible refine xHere ?_ | with_reducible refine xFar (by decide) ?_ | with_reducible refine wp_ret ?_ | with_reducible refine rThen ?_ | with_reducible refine rBlk ?_)
  refine' tlOp hF rfl rfl rfl ?_ ?_
  rotate_left
  · first | exact cExtE rfl rfl | exact cMove rfl rfl | exact cAssign rfl rfl | exact cPickT rfl rfl rfl | exact cPickF rfl rfl rfl | exact cNot rfl rfl | exact cLss rfl rfl rfl | exact cLeq rfl rfl rfl | exact cGtr rfl rfl rfl | exact cGeq rfl rfl rfl | exact cEql rfl rfl rfl | exact cNeq rfl rfl rfl | exact cExtract rfl rfl rfl
  intro a w3_e hF hb
  have hBs := hB.size
  replace hB := hB.trans (hb.mono hB.size)
  try (refine wpList_nil ?_)
  repeat (first | with_reducible refine wp_seq ?_ | with_reducible refine nThen ?_ | with_reducible refine nBlk ?_ | with_reducible refine wp_skip ?_ | with_reducible refine wp_block ?_ | with_reducible refine wp_exit ?_ | with_reducible refine xThen ?_ | with_reducible refine xHere ?_ | with_reducible refine xFar (by decide) ?_ | with_reducible refine wp_ret ?_ | with_reducible refine rThen ?_ | with_reducible refine rBlk ?_)
  refine tlNewTab hF rfl rfl rfl (by decide) rfl (run_alloc_i infoT46) rfl rfl rfl rfl tabO_tab sizeT46 fun a w3_n hF hb => ?_
  replace hB := hB.trans (hb.mono hB.size)
  try (refine wpList_nil ?_)
  repeat (first | with_reducible refine wp_seq ?_ | with_reducible refine nThen ?_ | with_reducible refine nBlk ?_ | with_reducible refine wp_skip ?_ | with_reducible refine wp_block ?_ | with_reducible refine wp_exit ?_ | with_reducible refine xThen ?_ | with_reducible refine xHere ?_ | with_reducible refine xFar (by decide) ?_ | with_reducible refine wp_ret ?_ | with_reducible refine rThen ?_ | with_reducible refine rBlk ?_)
  refine' tlOp hF rfl rfl rfl ?_ ?_
  rotate_left
  · first | exact cMove rfl rfl | exact cAssign rfl rfl | exact cPickT rfl rfl rfl | exact cPickF rfl rfl rfl | exact cNot rfl rfl | exact cLss rfl rfl rfl | exact cLeq rfl rfl rfl | exact cGtr rfl rfl rfl | exact cGeq rfl rfl rfl | exact cEql rfl rfl rfl | exact cNeq rfl rfl rfl | exact cExtract rfl rfl rfl
  intro a w3 hF hb
  have hBs := hB.size
  replace hB := hB.trans (hb.mono hB.size)
  try (refine wpList_nil ?_)
  repeat (first | with_reducible refine wp_seq ?_ | with_reducible refine nThen ?_ | with_reducible refine nBlk ?_ | with_reducible refine wp_skip ?_ | with_reducible refine wp_block ?_ | with_reducible refine wp_exit ?_ | with_reducible refine xThen ?_ | with_reducible refine xHere ?_ | with_reducible refine xFar (by decide) ?_ | with_reducible refine wp_ret ?_ | with_reducible refine rThen ?_ | with_reducible refine rBlk ?_)
  refine wp_region_lit ?_
  refine' tlOp hF rfl rfl rfl ?_ ?_
  rotate_left
  · first | exact cCallR3 rfl (.t rfl) (.t rfl) (Has.c (.t rfl) seg_sl) hof (tabE_olds _ _ _ _) | exact cMove rfl rfl | exact cAssign rfl rfl | exact cPickT rfl rfl rfl | exact cPickF rfl rfl rfl | exact cNot rfl rfl | exact cLss rfl rfl rfl | exact cLeq rfl rfl rfl | exact cGtr rfl rfl rfl | exact cGeq rfl rfl rfl | exact cEql rfl rfl rfl | exact cNeq rfl rfl rfl | exact cExtract rfl rfl rfl
  intro a w4_0 hF hb
  have hBs := hB.size
  replace hB := hB.trans (hb.mono hB.size)
  try (refine wpList_nil ?_)
  repeat (first | with_reducible refine wp_seq ?_ | with_reducible refine nThen ?_ | with_reducible refine nBlk ?_ | with_reducible refine wp_skip ?_ | with_reducible refine wp_block ?_ | with_reducible refine wp_exit ?_ | with_reducible refine xThen ?_ | with_reducible refine xHere ?_ | with_reducible refine xFar (by decide) ?_ | with_reducible refine wp_ret ?_ | with_reducible refine rThen ?_ | with_reducible refine rBlk ?_)
  refine' tlOp hF rfl rfl rfl ?_ ?_
  rotate_left
  · first | exact cCallR3 rfl (.t rfl) (.t rfl) (Has.c (.t rfl) seg_sl) hof (tabE_olds _ _ _ _) | exact cMove rfl rfl | exact cAssign rfl rfl | exact cPickT rfl rfl rfl | exact cPickF rfl rfl rfl | exact cNot rfl rfl | exact cLss rfl rfl rfl | exact cLeq rfl rfl rfl | exact cGtr rfl rfl rfl | exact cGeq rfl rfl rfl | exact cEql rfl rfl rfl | exact cNeq rfl rfl rfl | exact cExtract rfl rfl rfl
  intro a w4_1 hF hb
  have hBs := hB.size
  replace hB := hB.trans (hb.mono hB.size)
  try (refine wpList_nil ?_)
  repeat (first | with_reducible refine wp_seq ?_ | with_reducible refine nThen ?_ | with_reducible refine nBlk ?_ | with_reducible refine wp_skip ?_ | with_reducible refine wp_block ?_ | with_reducible refine wp_exit ?_ | with_reducible refine xThen ?_ | with_reducible refine xHere ?_ | with_reducible refine xFar (by decide) ?_ | with_reducible refine wp_ret ?_ | with_reducible refine rThen ?_ | with_reducible refine rBlk ?_)
  refine' tlOp hF rfl rfl rfl ?_ ?_
  rotate_left
  · first | exact cCallR3 rfl (.t rfl) (.t rfl) (Has.c (.t rfl) seg_sl) hof (tabE_olds _ _ _ _) | exact cMove rfl rfl | exact cAssign rfl rfl | exact cPickT rfl rfl rfl | exact cPickF rfl rfl rfl | exact cNot rfl rfl | exact cLss rfl rfl rfl | exact cLeq rfl rfl rfl | exact cGtr rfl rfl rfl | exact cGeq rfl rfl rfl | exact cEql rfl rfl rfl | exact cNeq rfl rfl rfl | exact cExtract rfl rfl rfl
  intro a w4_2 hF hb
  have hBs := hB.size
  replace hB := hB.trans (hb.mono hB.size)
  try (refine wpList_nil ?_)
  repeat (first | with_reducible refine wp_seq ?_ | with_reducible refine nThen ?_ | with_reducible refine nBlk ?_ | with_reducible refine wp_skip ?_ | with_reducible refine wp_block ?_ | with_reducible refine wp_exit ?_ | with_reducible refine xThen ?_ | with_reducible refine xHere ?_ | with_reducible refine xFar (by decide) ?_ | with_reducible refine wp_ret ?_ | with_reducible refine rThen ?_ | with_reducible refine rBlk ?_)
  refine' tlOp hF rfl rfl rfl ?_ ?_
  rotate_left
  · first | exact cExtT rfl rfl | exact cMove rfl rfl | exact cAssign rfl rfl | exact cPickT rfl rfl rfl | exact cPickF rfl rfl rfl | exact cNot rfl rfl | exact cLss rfl rfl rfl | exact cLeq rfl rfl rfl | exact cGtr rfl rfl rfl | exact cGeq rfl rfl rfl | exact cEql rfl rfl rfl | exact cNeq rfl rfl rfl | exact cExtract rfl rfl rfl
  intro a w4_t hF hb
  have hBs := hB.size
  replace hB := hB.trans (hb.mono hB.size)
  try (refine wpList_nil ?_)
  repeat (first | with_reducible refine wp_seq ?_ | with_reducible refine nThen ?_ | with_reducible refine nBlk ?_ | with_reducible refine wp_skip ?_ | with_reducible refine wp_block ?_ | with_reducible refine wp_exit ?_ | with_reducible refine xThen ?_ | with_reducible refine xHere ?_ | with_reducible refine xFar (by decide) ?_ | with_reducible refine wp_ret ?_ | with_reducible refine rThen ?_ | with_reducible refine rBlk ?_)
  refine' tlOp hF rfl rfl rfl ?_ ?_
  rotate_left
  · first | exact cExtE rfl rfl | exact cMove rfl rfl | exact cAssign rfl rfl | exact cPickT rfl rfl rfl | exact cPickF rfl rfl rfl | exact cNot rfl rfl | exact cLss rfl rfl rfl | exact cLeq rfl rfl rfl | exact cGtr rfl rfl rfl | exact cGeq rfl rfl rfl | exact cEql rfl rfl rfl | exact cNeq rfl rfl rfl | exact cExtract rfl rfl rfl
  intro a w4_e hF hb
  have hBs := hB.size
  replace hB := hB.trans (hb.mono hB.size)
  try (refine wpList_nil ?_)
  repeat (first | with_reducible refine wp_seq ?_ | with_reducible refine nThen ?_ | with_reducible refine nBlk ?_ | with_reducible refine wp_skip ?_ | with_reducible refine wp_block ?_ | with_reducible refine wp_exit ?_ | with_reducible refine xThen ?_ | with_reducible refine xHere ?_ | with_reducible refine xFar (by decide) ?_ | with_reducible refine wp_ret ?_ | with_reducible refine rThen ?_ | with_reducible refine rBlk ?_)
  refine tlNewTab hF rfl rfl rfl (by decide) rfl (run_alloc_i infoT46) rfl rfl rfl rfl tabO_tab sizeT46 fun a w4_n hF hb => ?_
  replace hB := hB.trans (hb.mono hB.size)
  try (refine wpList_nil ?_)
  repeat (first | with_reducible refine wp_seq ?_ | with_reducible refine nThen ?_ | with_reducible refine nBlk ?_ | with_reducible refine wp_skip ?_ | with_reducible refine wp_block ?_ | with_reducible refine wp_exit ?_ | with_reducible refine xThen ?_ | with_reducible refine xHere ?_ | with_reducible refine xFar (by decide) ?_ | with_reducible refine wp_ret ?_ | with_reducible refine rThen ?_ | with_reducible refine rBlk ?_)
  refine' tlOp hF rfl rfl rfl ?_ ?_
  rotate_left
  · first | exact cMove rfl rfl | exact cAssign rfl rfl | exact cPickT rfl rfl rfl | exact cPickF rfl rfl rfl | exact cNot rfl rfl | exact cLss rfl rfl rfl | exact cLeq rfl rfl rfl | exact cGtr rfl rfl rfl | exact cGeq rfl rfl rfl | exact cEql rfl rfl rfl | exact cNeq rfl rfl rfl | exact cExtract rfl rfl rfl
  intro a w4 hF hb
  have hBs := hB.size
  replace hB := hB.trans (hb.mono hB.size)
  try (refine wpList_nil ?_)
  repeat (first | with_reducible refine wp_seq ?_ | with_reducible refine nThen ?_ | with_reducible refine nBlk ?_ | with_reducible refine wp_skip ?_ | with_reducible refine wp_block ?_ | with_reducible refine wp_exit ?_ | with_reducible refine xThen ?_ | with_reducible refine xHere ?_ | with_reducible refine xFar (by decide) ?_ | with_reducible refine wp_ret ?_ | with_reducible refine rThen ?_ | with_reducible refine rBlk ?_)
  refine wp_region_lit ?_
  refine' tlOp hF rfl rfl rfl ?_ ?_
  rotate_left
  · first | exact cLoadTab46 rfl (.t rfl) | exact cCallR2 rfl (.t rfl) (.t rfl) hmn (tabE_olds _ _ _ _) | exact cMove rfl rfl | exact cAssign rfl rfl | exact cPickT rfl rfl rfl | exact cPickF rfl rfl rfl | exact cNot rfl rfl | exact cLss rfl rfl rfl | exact cLeq rfl rfl rfl | exact cGtr rfl rfl rfl | exact cGeq rfl rfl rfl | exact cEql rfl rfl rfl | exact cNeq rfl rfl rfl | exact cExtract rfl rfl rfl
  intro a w5_0 hF hb
  have hBs := hB.size
  replace hB := hB.trans (hb.mono hB.size)
  try (refine wpList_nil ?_)
  repeat (first | with_reducible refine wp_seq ?_ | with_reducible refine nThen ?_ | with_reducible refine nBlk ?_ | with_reducible refine wp_skip ?_ | with_reducible refine wp_block ?_ | with_reducible refine wp_exit ?_ | with_reducible refine xThen ?_ | with_reducible refine xHere ?_ | with_reducible refine xFar (by decide) ?_ | with_reducible refine wp_ret ?_ | with_reducible refine rThen ?_ | with_reducible refine rBlk ?_)
  refine' tlOp hF rfl rfl rfl ?_ ?_
  rotate_left
  · first | exact cLoadTab46 rfl (.t rfl) | exact cCallR2 rfl (.t rfl) (.t rfl) hmn (tabE_olds _ _ _ _) | exact cMove rfl rfl | exact cAssign rfl rfl | exact cPickT rfl rfl rfl | exact cPickF rfl rfl rfl | exact cNot rfl rfl | exact cLss rfl rfl rfl | exact cLeq rfl rfl rfl | exact cGtr rfl rfl rfl | exact cGeq rfl rfl rfl | exact cEql rfl rfl rfl | exact cNeq rfl rfl rfl | exact cExtract rfl rfl rfl
  intro a w5_1 hF hb
  have hBs := hB.size
  replace hB := hB.trans (hb.mono hB.size)
  try (refine wpList_nil ?_)
  repeat (first | with_reducible refine wp_seq ?_ | with_reducible refine nThen ?_ | with_reducible refine nBlk ?_ | with_reducible refine wp_skip ?_ | with_reducible refine wp_block ?_ | with_reducible refine wp_exit ?_ | with_reducible refine xThen ?_ | with_reducible refine xHere ?_ | with_reducible refine xFar (by decide) ?_ | with_reducible refine wp_ret ?_ | with_reducible refine rThen ?_ | with_reducible refine rBlk ?_)
  refine' tlOp hF rfl rfl rfl ?_ ?_
  rotate_left
  · first | exact cLoadTab46 rfl (.t rfl) | exact cCallR2 rfl (.t rfl) (.t rfl) hmn (tabE_olds _ _ _ _) | exact cMove rfl rfl | exact cAssign rfl rfl | exact cPickT rfl rfl rfl | exact cPickF rfl rfl rfl | exact cNot rfl rfl | exact cLss rfl rfl rfl | exact cLeq rfl rfl rfl | exact cGtr rfl rfl rfl | exact cGeq rfl rfl rfl | exact cEql rfl rfl rfl | exact cNeq rfl rfl rfl | exact cExtract rfl rfl rfl
  intro a w5_2 hF hb
  have hBs := hB.size
  replace hB := hB.trans (hb.mono hB.size)
  try (refine wpList_nil ?_)
  repeat (first | with_reducible refine wp_seq ?_ | with_reducible refine nThen ?_ | with_reducible refine nBlk ?_ | with_reducible refine wp_skip ?_ | with_reducible refine wp_block ?_ | with_reducible refine wp_exit ?_ | with_reducible refine xThen ?_ | with_reducible refine xHere ?_ | with_reducible refine xFar (by decide) ?_ | with_reducible refine wp_ret ?_ | with_reducible refine rThen ?_ | with_reducible refine rBlk ?_)
  refine' tlOp hF rfl rfl rfl ?_ ?_
  rotate_left
  · first | exact cLoadTab46 rfl (.t rfl) | exact cCallR2 rfl (.t rfl) (.t rfl) hmn (tabE_olds _ _ _ _) | exact cMove rfl rfl | exact cAssign rfl rfl | exact cPickT rfl rfl rfl | exact cPickF rfl rfl rfl | exact cNot rfl rfl | exact cLss rfl rfl rfl | exact cLeq rfl rfl rfl | exact cGtr rfl rfl rfl | exact cGeq rfl rfl rfl | exact cEql rfl rfl rfl | exact cNeq rfl rfl rfl | exact cExtract rfl rfl rfl
  intro a w5_3 hF hb
  have hBs := hB.size
  replace hB := hB.trans (hb.mono hB.size)
  try (refine wpList_nil ?_)
  repeat (first | with_reducible refine wp_seq ?_ | with_reducible refine nThen ?_ | with_reducible refine nBlk ?_ | with_reducible refine wp_skip ?_ | with_reducible refine wp_block ?_ | with_reducible refine wp_exit ?_ | with_reducible refine xThen ?_ | with_reducible refine xHere ?_ | with_reducible refine xFar (by decide) ?_ | with_reducible refine wp_ret ?_ | with_reducible refine rThen ?_ | with_reducible refine rBlk ?_)
  refine' tlOp hF rfl rfl rfl ?_ ?_
  rotate_left
  · first | exact cExtT rfl rfl | exact cMove rfl rfl | exact cAssign rfl rfl | exact cPickT rfl rfl rfl | exact cPickF rfl rfl rfl | exact cNot rfl rfl | exact cLss rfl rfl rfl | exact cLeq rfl rfl rfl | exact cGtr rfl rfl rfl | exact cGeq rfl rfl rfl | exact cEql rfl rfl rfl | exact cNeq rfl rfl rfl | exact cExtract rfl rfl rfl
  intro a w5_t hF hb
  have hBs := hB.size
  replace hB := hB.trans (hb.mono hB.size)
  try (refine wpList_nil ?_)
  repeat (first | with_reducible refine wp_seq ?_ | with_reducible refine nThen ?_ | with_reducible refine nBlk ?_ | with_reducible refine wp_skip ?_ | with_reducible refine wp_block ?_ | with_reducible refine wp_exit ?_ | with_reducible refine xThen ?_ | with_reducible refine xHere ?_ | with_reducible refine xFar (by decide) ?_ | with_reducible refine wp_ret ?_ | with_reducible refine rThen ?_ | with_reducible refine rBlk ?_)
  refine' tlOp hF rfl rfl rfl ?_ ?_
  rotate_left
  · first | exact cExtE rfl rfl | exact cMove rfl rfl | exact cAssign rfl rfl | exact cPickT rfl rfl rfl | exact cPickF rfl rfl rfl | exact cNot rfl rfl | exact cLss rfl rfl rfl | exact cLeq rfl rfl rfl | exact cGtr rfl rfl rfl | exact cGeq rfl rfl rfl | exact cEql rfl rfl rfl | exact cNeq rfl rfl rfl | exact cExtract rfl rfl rfl
  intro a w5_e hF hb
  have hBs := hB.size
  replace hB := hB.trans (hb.mono hB.size)
  try (refine wpList_nil ?_)
  repeat (first | with_reducible refine wp_seq ?_ | with_reducible refine nThen ?_ | with_reducible refine nBlk ?_ | with_reducible refine wp_skip ?_ | with_reducible refine wp_block ?_ | with_reducible refine wp_exit ?_ | with_reducible refine xThen ?_ | with_reducible refine xHere ?_ | with_reducible refine xFar (by decide) ?_ | with_reducible refine wp_ret ?_ | with_reducible refine rThen ?_ | with_reducible refine rBlk ?_)
  refine tlNewTab hF rfl rfl rfl (by decide) rfl (run_alloc_i infoT46) rfl rfl rfl rfl tabO_tab sizeT46 fun a w5_n hF hb => ?_
  replace hB := hB.trans (hb.mono hB.size)
  try (refine wpList_nil ?_)
  repeat (first | with_reducible refine wp_seq ?_ | with_reducible refine nThen ?_ | with_reducible refine nBlk ?_ | with_reducible refine wp_skip ?_ | with_reducible refine wp_block ?_ | with_reducible refine wp_exit ?_ | with_reducible refine xThen ?_ | with_reducible refine xHere ?_ | with_reducible refine xFar (by decide) ?_ | with_reducible refine wp_ret ?_ | with_reducible refine rThen ?_ | with_reducible refine rBlk ?_)
  refine' tlOp hF rfl rfl rfl ?_ ?_
  rotate_left
  · first | exact cMove rfl rfl | exact cAssign rfl rfl | exact cPickT rfl rfl rfl | exact cPickF rfl rfl rfl | exact cNot rfl rfl | exact cLss rfl rfl rfl | exact cLeq rfl rfl rfl | exact cGtr rfl rfl rfl | exact cGeq rfl rfl rfl | exact cEql rfl rfl rfl | exact cNeq rfl rfl rfl | exact cExtract rfl rfl rfl
  intro a w5 hF hb
  have hBs := hB.size
  replace hB := hB.trans (hb.mono hB.size)
  try (refine wpList_nil ?_)
  repeat (first | with_reducible refine wp_seq ?_ | with_reducible refine nThen ?_ | with_reducible refine nBlk ?_ | with_reducible refine wp_skip ?_ | with_reducible refine wp_block ?_ | with_reducible refine wp_exit ?_ | with_reducible refine xThen ?_ | with_reducible refine xHere ?_ | with_reducible refine xFar (by decide) ?_ | with_reducible refine wp_ret ?_ | with_reducible refine rThen ?_ | with_reducible refine rBlk ?_)
  repeat (first | with_reducible refine wp_seq ?_ | with_reducible refine nThen ?_ | with_reducible refine nBlk ?_ | with_reducible refine wp_skip ?_ | with_reducible refine wp_block ?_ | with_reducible refine wp_exit ?_ | with_reducible refine xThen ?_ | with_reducible refine xHere ?_ | with_reducible refine xFar (by decide) ?_ | with_reducible refine wp_ret ?_ | with_reducible refine rThen ?_ | with_reducible refine rBlk ?_)
  refine' reg_all hF ?_ mixed (by kernel_rfl) ?_
  rotate_left
  · repeat (first
        | exact Line.nil
        | (refine' Line.cons rfl (.no rfl rfl rfl rfl rfl rfl) ?_; rotate_left)
        | ((first | refine' Line.cons rfl (.run rfl rfl ?_) ?_ | refine' Line.cons rfl (.yes rfl rfl rfl rfl ?_) ?_)
           any_goals (first | exact cMove rfl rfl | exact cAssign rfl rfl | exact cNot rfl rfl | exact OpOk.b (c := true) (cEql rfl rfl rfl) rfl | exact cLoadTab46 rfl (.t rfl) | exact cCall1 rfl rfl hz1 | exact cCall1 rfl rfl hz2 | exact cCall1 rfl rfl hct | exact cPickT rfl rfl rfl | exact cPickF rfl rfl rfl | exact cLss rfl rfl rfl | exact cLeq rfl rfl rfl | exact cGtr rfl rfl rfl | exact cGeq rfl rfl rfl | exact cEql rfl rfl rfl | exact cNeq rfl rfl rfl | exact cExtract rfl rfl rfl)
           rotate_left))
  intro a w23 hF hb hN
  have hBs := hB.size
  replace hB := hB.trans (hb.mono hB.size)
  dsimp only [ext, Option.getD] at hF
  repeat (first | with_reducible refine wp_seq ?_ | with_reducible refine nThen ?_ | with_reducible refine nBlk ?_ | with_reducible refine wp_skip ?_ | with_reducible refine wp_block ?_ | with_reducible refine wp_exit ?_ | with_reducible refine xThen ?_ | with_reducible refine xHere ?_ | with_reducible refine xFar (by decide) ?_ | with_reducible refine wp_ret ?_ | with_reducible refine rThen ?_ | with_reducible refine rBlk ?_)
  refine ret1 hF rfl rfl fun z hz => ?_
  exact ⟨z, rfl, hz, hB⟩
end Go.Proofs.Ytmlbkcpmgcjblaa

/- Layer 15 by types: TableOrder. -/
namespace Go.Proofs.Ytmlbkcpmgcjblaa
open Go.RowKit

theorem tblk_at {w : World} {g : Nat} {T : TypeId} {u s : Value} (h : Blk w g T #[u, s]) : (Ty.at_ T [u, s]).p w (.pointer (some ⟨g, 0, none⟩)) := ⟨g, 0, _, (0, 0), rfl, h, fun j u h => by simpa using h⟩
/-- The row begun elsewhere. -/
def turned (X : List Sm) (r : Nat) : List Sm := X.drop r ++ X.take r
theorem take_snocM (X : List Sm) {k : Nat} (h : k < X.length) : X.take (k + 1) = X.take k ++ [X.getD k default] := by
  rw [List.take_succ_eq_append_getElem h]
  simp [List.getD, List.getElem?_eq_getElem h]
theorem tall_next (seed : Nat) (L : List Cl) (X : List Sm) {k : Nat} (h : k < X.length) (n : Int) : tall seed L (X.take (k + 1)) n = tput seed (tall seed L (X.take k) n) (X.getD k default) n := by
  rw [take_snocM X h, tall_snoc]
section
variable {P : Program} {ops : Array Oper} {Q : Exit → Act → World → Prop} {N : Nat} {Γ : Ctx} {a : Act} {w : World} {o1 o2 : Oper} {rest : List Oper}
end
end Go.Proofs.Ytmlbkcpmgcjblaa

/- Layer 10 by types: the document's Of. -/
namespace Go.Proofs.Ytmlbkcpmgcjblaa
open Go.RowKit

/-- One more, laid where it belongs. -/
theorem ins_same {s : List Sm} {x : Sm} {k : Nat} (hk : k ≤ s.length) (h1 : 0 < k) (h2 : s.getD (k - 1) default = x) (D : List Sm) (hs : s = setL D) : s = setL (D ++ [x]) := by
  subst hs
  refine srt_ext (setL_srt _) (setL_srt _) fun z => ?_
  rw [setL_mem, setL_mem, List.mem_append, List.mem_singleton]
  constructor
  · exact .inl
  · rintro (h | h)
    · exact h
    · rw [h, ← h2, ← setL_mem D]
      exact mem_get.2 ⟨k - 1, by omega, rfl⟩
theorem ins_new {s : List Sm} {x : Sm} {k : Nat} (hk : k ≤ s.length) (hhi : ∀ j, k ≤ j → j < s.length → 0 < cmpL (s.getD j default).l x.l) (hlo : k = 0 ∨ ¬ 0 < cmpL (s.getD (k - 1) default).l x.l) (hne : k = 0 ∨ ¬ s.getD (k - 1) default = x) (D : List Sm) (hs : s = setL D) : s.take k ++ [x] ++ s.drop k = setL (D ++ [x]) := by
  subst hs
  have hsr := setL_srt D
  have hlt : ∀ y ∈ (setL D).take k, cmpL y.l x.l < 0 := by
    intro y hy
    obtain ⟨j, hj, rfl⟩ := mem_get.1 hy
    rw [List.length_take] at hj
    have e : ((setL D).take k).getD j default = (setL D).getD j default := by
      simp only [List.getD, List.getElem?_take]
      rw [if_pos (by omega)]
    rw [e]
    have hk0 : ¬ k = 0 := by omega
    have a1 := hlo.resolve_left hk0
    have a2 := hne.resolve_left hk0
    have a3 : ¬ cmpL ((setL D).getD (k - 1) default).l x.l = 0 := fun h => a2 (cmp_zero.1 h)
    by_cases hjk : j = k - 1
    · subst hjk; omega
    · have a4 := lt_get hsr (i := j) (j := k - 1) (by omega) (by omega)
      exact cmp_lt_trans (Int.le_of_lt a4) (by omega) (.inl a4)
  have hgt : ∀ y ∈ (setL D).drop k, cmpL x.l y.l < 0 := by
    intro y hy
    obtain ⟨j, hj, rfl⟩ := mem_get.1 hy
    rw [List.length_drop] at hj
    rw [getD_drop]
    have a1 := hhi (k + j) (by omega) (by omega)
    have := cmpL_swap ((setL D).getD (k + j) default).l x.l
    omega
  refine srt_ext ?_ (setL_srt _) fun z => ?_
  · rw [List.append_assoc]
    refine List.pairwise_append.2 ⟨List.Pairwise.sublist (List.take_sublist _ _) hsr, List.pairwise_cons.2 ⟨hgt, List.Pairwise.sublist (List.drop_sublist _ _) hsr⟩, fun a ha b hb => ?_⟩
    rcases List.mem_cons.1 hb with rfl | hb
    · exact hlt a ha
    · have h1 := hlt a ha
      have h2 := hgt b hb
      exact cmp_lt_trans (by omega) (by omega) (.inl h1)
  · rw [setL_mem, List.mem_append, List.mem_append, List.mem_append, List.mem_singleton, ← setL_mem D z]
    constructor
    · rintro ((h | h) | h)
      · exact .inl (List.mem_of_mem_take h)
      · exact .inr h
      · exact .inl (List.mem_of_mem_drop h)
    · rintro (h | h)
      · rw [← List.take_append_drop k (setL D), List.mem_append] at h
        rcases h with h | h
        · exact .inl (.inl h)
        · exact .inr h
      · exact .inl (.inr h)
theorem infoR1 : (Try.prog.info? 61).map (fun i => (i.zero, i.size, i.bytes)) = some (some (.agg (u8s (List.replicate 32 0))), 32, 32) := by kernel_rfl
theorem flat_l1 (x : Sm) : (([.agg (u8s x.l)] : List Value).map fun v => v.cells.toList).flatten = flat [x] := flat_cells [x]
theorem oBuildSum1 {P : Program} {w0 : World} {Γ : Ctx} {o : Oper} {t e : TypeId} {z : Value} {bytes : Nat} {x : Sm} {y : Operand} (ho : o.op = .buildSlice t 1 #[(0, y)]) (hy : OpT Γ y (Ty.ex (.agg (u8s x.l)))) (hu : P.underlying t = some (.slice e)) (hi : (P.info? e).map (fun i => (i.zero, i.size, i.bytes)) = some (some z, 32, bytes)) : OpO P w0 Γ o (OTy.seg w0 e 32 1 (flat [x])) := by
  have h := oBuild (P := P) (w0 := w0) (Γ := Γ) (vs := [.agg (u8s x.l)]) ho (parts1v ho hy) hu hi rfl (cells_sums [x]) (by decide) (by simp [maxLen])
  rwa [flat_l1] at h
theorem seg_news {w0 w : World} {e : TypeId} {sz m : Nat} {news : List Value} : ∀ u, (Ty.seg w0 e sz m news).p w u → ∃ A c, u = .slice A m c ∧ (A = none → m = 0) ∧ Rd w A news := fun u h => sl_news u (seg_sl _ _ h)
set_option maxRecDepth 100000 in
set_option maxHeartbeats 4000000 in
theorem r10of_ty (D : List Sm) (hD : D.length ≤ 1000000) : FnSeg1 Try.prog 52 (Ty.sums 61 D) 61 32 (setL D).length (flat (setL D)) := by
  refine ⟨fun args w => by kernel_rfl, fun w v hv => ?_⟩
  refine enter_ty 61 [Ty.ex v] Try.func52 rfl (by kernel_rfl) ⟨rfl, trivial⟩ fun a hF => ?_
  have hB := Below.refl w.heap.size w
  let TD := Ty.sums 61 D
  repeat (first | with_reducible refine wp_seq ?_ | with_reducible refine nThen ?_ | with_reducible refine nBlk ?_ | with_reducible refine wp_skip ?_ | with_reducible refine wp_block ?_ | with_reducible refine wp_exit ?_ | with_reducible refine xThen ?_ | with_reducible refine xHere ?_ | with_reducible refine xFar (by decide) ?_ | with_reducible refine wp_ret ?_ | with_reducible refine rThen ?_ | with_reducible refine rBlk ?_)
  refine' reg_all hF ?_ mixed (by kernel_rfl) ?_
  rotate_left
  · repeat (first
        | exact Line.nil
        | (refine' Line.cons rfl (.no rfl rfl rfl rfl rfl rfl) ?_; rotate_left)
        | ((first | refine' Line.cons rfl (.run rfl rfl ?_) ?_ | refine' Line.cons rfl (.yes rfl rfl rfl rfl ?_) ?_)
           any_goals (first | exact cMove rfl rfl | exact cAssign rfl rfl | exact cNot rfl rfl | exact cPickT rfl rfl rfl | exact cPickF rfl rfl rfl | exact cLss rfl rfl rfl | exact cLeq rfl rfl rfl | exact cGtr rfl rfl rfl | exact cGeq rfl rfl rfl | exact cEql rfl rfl rfl | exact cNeq rfl rfl rfl | exact cExtract rfl rfl rfl)
           rotate_left))
  intro a w1 hF hb hN
  have hBs := hB.size
  replace hB := hB.trans (hb.mono hB.size)
  dsimp only [ext, Option.getD] at hF
  repeat (first | with_reducible refine wp_seq ?_ | with_reducible refine nThen ?_ | with_reducible refine nBlk ?_ | with_reducible refine wp_skip ?_ | with_reducible refine wp_block ?_ | with_reducible refine wp_exit ?_ | with_reducible refine xThen ?_ | with_reducible refine xHere ?_ | with_reducible refine xFar (by decide) ?_ | with_reducible refine wp_ret ?_ | with_reducible refine rThen ?_ | with_reducible refine rBlk ?_)
  refine' reg_all hF ?_ mixed (by kernel_rfl) ?_
  rotate_left
  · repeat (first
        | exact Line.nil
        | (refine' Line.cons rfl (.no rfl rfl rfl rfl rfl rfl) ?_; rotate_left)
        | ((first | refine' Line.cons rfl (.run rfl rfl ?_) ?_ | refine' Line.cons rfl (.yes rfl rfl rfl rfl ?_) ?_)
           any_goals (first | exact cMove rfl rfl | exact cAssign rfl rfl | exact cNot rfl rfl | exact cPickT rfl rfl rfl | exact cPickF rfl rfl rfl | exact cLss rfl rfl rfl | exact cLeq rfl rfl rfl | exact cGtr rfl rfl rfl | exact cGeq rfl rfl rfl | exact cEql rfl rfl rfl | exact cNeq rfl rfl rfl | exact cExtract rfl rfl rfl)
           rotate_left))
  intro a w2 hF hb hN
  have hBs := hB.size
  replace hB := hB.trans (hb.mono hB.size)
  dsimp only [ext, Option.getD] at hF
  repeat (first | with_reducible refine wp_seq ?_ | with_reducible refine nThen ?_ | with_reducible refine nBlk ?_ | with_reducible refine wp_skip ?_ | with_reducible refine wp_block ?_ | with_reducible refine wp_exit ?_ | with_reducible refine xThen ?_ | with_reducible refine xHere ?_ | with_reducible refine xFar (by decide) ?_ | with_reducible refine wp_ret ?_ | with_reducible refine rThen ?_ | with_reducible refine rBlk ?_)
  refine' reg_all hF ?_ mixed (by kernel_rfl) ?_
  rotate_left
  · repeat (first
        | exact Line.nil
        | (refine' Line.cons rfl (.no rfl rfl rfl rfl rfl rfl) ?_; rotate_left)
        | ((first | refine' Line.cons rfl (.run rfl rfl ?_) ?_ | refine' Line.cons rfl (.yes rfl rfl rfl rfl ?_) ?_)
           any_goals (first | exact cMove rfl rfl | exact cAssign rfl rfl | exact cNot rfl rfl | exact cPickT rfl rfl rfl | exact cPickF rfl rfl rfl | exact cLss rfl rfl rfl | exact cLeq rfl rfl rfl | exact cGtr rfl rfl rfl | exact cGeq rfl rfl rfl | exact cEql rfl rfl rfl | exact cNeq rfl rfl rfl | exact cExtract rfl rfl rfl)
           rotate_left))
  intro a w3 hF hb hN
  have hBs := hB.size
  replace hB := hB.trans (hb.mono hB.size)
  dsimp only [ext, Option.getD] at hF
  repeat (first | with_reducible refine wp_seq ?_ | with_reducible refine nThen ?_ | with_reducible refine nBlk ?_ | with_reducible refine wp_skip ?_ | with_reducible refine wp_block ?_ | with_reducible refine wp_exit ?_ | with_reducible refine xThen ?_ | with_reducible refine xHere ?_ | with_reducible refine xFar (by decide) ?_ | with_reducible refine wp_ret ?_ | with_reducible refine rThen ?_ | with_reducible refine rBlk ?_)
  refine loop_ty (fun m a wr => ∃ (i : Nat) (u : Value) (S : List Nat), i + m = D.length ∧ Fr 61 [(0, Ty.ex v), (3, Ty.ex u), (4, Ty.ex (.int .i64 (i : Int)))] a wr ∧ Below w.heap.size w wr ∧ Seg wr 61 32 u (setL (D.take i)).length (flat (setL (D.take i))) S ∧ ∀ y ∈ S, w.heap.size ≤ y) D.length ?_ ?_
  · exact ⟨0, _, [], by omega, hF.keep [0, 3, 4], hB, Seg.nil _ _ _, by simp⟩
  clear hF hB
  rintro m a wr ⟨i, u, S, hi, hF, hB, hseg, hS⟩
  have hvr := TD.below hv hB
  repeat (first | with_reducible refine wp_seq ?_ | with_reducible refine nThen ?_ | with_reducible refine nBlk ?_ | with_reducible refine wp_skip ?_ | with_reducible refine wp_block ?_ | with_reducible refine wp_exit ?_ | with_reducible refine xThen ?_ | with_reducible refine xHere ?_ | with_reducible refine xFar (by decide) ?_ | with_reducible refine wp_ret ?_ | with_reducible refine rThen ?_ | with_reducible refine rBlk ?_)
  refine' reg_all hF ?_ mixed (by kernel_rfl) ?_
  rotate_left
  · repeat (first
        | exact Line.nil
        | (refine' Line.cons rfl (.no rfl rfl rfl rfl rfl rfl) ?_; rotate_left)
        | ((first | refine' Line.cons rfl (.run rfl rfl ?_) ?_ | refine' Line.cons rfl (.yes rfl rfl rfl rfl ?_) ?_)
           any_goals (first | exact cMove rfl rfl | exact cAssign rfl rfl | exact cNot rfl rfl | exact cLenH rfl (.l rfl hvr) (Ty.sl_isSl _ _ _) Try.underlying57 | exact cPickT rfl rfl rfl | exact cPickF rfl rfl rfl | exact cLss rfl rfl rfl | exact cLeq rfl rfl rfl | exact cGtr rfl rfl rfl | exact cGeq rfl rfl rfl | exact cEql rfl rfl rfl | exact cNeq rfl rfl rfl | exact cExtract rfl rfl rfl)
           rotate_left))
  intro a w4 hF hb hN
  have hBs := hB.size
  replace hB := hB.trans (hb.mono hB.size)
  dsimp only [ext, Option.getD] at hF
  repeat (first | with_reducible refine wp_seq ?_ | with_reducible refine nThen ?_ | with_reducible refine nBlk ?_ | with_reducible refine wp_skip ?_ | with_reducible refine wp_block ?_ | with_reducible refine wp_exit ?_ | with_reducible refine xThen ?_ | with_reducible refine xHere ?_ | with_reducible refine xFar (by decide) ?_ | with_reducible refine wp_ret ?_ | with_reducible refine rThen ?_ | with_reducible refine rBlk ?_)
  replace hseg := hseg.below hb
  replace hvr := TD.below hvr hb
  refine cond_ty hF rfl (fun hlt => ?_) (fun hge => ?_)
  rotate_left
  · have hge : ¬ i < D.length := by have := of_decide_eq_false hge; omega
    obtain rfl : i = D.length := by omega
    rw [List.take_length] at hseg
    repeat (first | with_reducible refine wp_seq ?_ | with_reducible refine nThen ?_ | with_reducible refine nBlk ?_ | with_reducible refine wp_skip ?_ | with_reducible refine wp_block ?_ | with_reducible refine wp_exit ?_ | with_reducible refine xThen ?_ | with_reducible refine xHere ?_ | with_reducible refine xFar (by decide) ?_ | with_reducible refine wp_ret ?_ | with_reducible refine rThen ?_ | with_reducible refine rBlk ?_)
    refine' reg_all hF ?_ mixed (by kernel_rfl) ?_
    rotate_left
    · repeat (first
          | exact Line.nil
          | (refine' Line.cons rfl (.no rfl rfl rfl rfl rfl rfl) ?_; rotate_left)
          | ((first | refine' Line.cons rfl (.run rfl rfl ?_) ?_ | refine' Line.cons rfl (.yes rfl rfl rfl rfl ?_) ?_)
             any_goals (first | exact cMove rfl rfl | exact cAssign rfl rfl | exact cNot rfl rfl | exact cPickT rfl rfl rfl | exact cPickF rfl rfl rfl | exact cLss rfl rfl rfl | exact cLeq rfl rfl rfl | exact cGtr rfl rfl rfl | exact cGeq rfl rfl rfl | exact cEql rfl rfl rfl | exact cNeq rfl rfl rfl | exact cExtract rfl rfl rfl)
             rotate_left))
    intro a w5 hF hb hN
    have hBs := hB.size
    replace hB := hB.trans (hb.mono hB.size)
    dsimp only [ext, Option.getD] at hF
    repeat (first | with_reducible refine wp_seq ?_ | with_reducible refine nThen ?_ | with_reducible refine nBlk ?_ | with_reducible refine wp_skip ?_ | with_reducible refine wp_block ?_ | with_reducible refine wp_exit ?_ | with_reducible refine xThen ?_ | with_reducible refine xHere ?_ | with_reducible refine xFar (by decide) ?_ | with_reducible refine wp_ret ?_ | with_reducible refine rThen ?_ | with_reducible refine rBlk ?_)
    refine ret1 hF rfl rfl fun z hz => ?_
    have hz : z = u := hz
    subst hz
    exact ⟨z, rfl, ⟨S, hseg.below hb, hS⟩, hB⟩
  have hlt : i < D.length := by have := of_decide_eq_true hlt; omega
  have htk : D.take (i + 1) = D.take i ++ [D.getD i default] := take_snoc' D hlt
  obtain ⟨s, hs⟩ : ∃ s, s = setL (D.take i) := ⟨_, rfl⟩
  obtain ⟨x, hx⟩ : ∃ x, x = D.getD i default := ⟨_, rfl⟩
  have hsl : s.length ≤ 1000000 := by rw [hs]; exact Nat.le_trans (setL_len _) (by rw [List.length_take]; omega)
  rw [← hs] at hseg
  rw [← hx] at htk
  obtain ⟨A, c, rfl, hnc, hcm, hrd, _, hAn⟩ := hseg.form
  obtain ⟨Av, cv, rfl, hvn, hvc, hvA⟩ := hvr.form
  obtain ⟨gv, ov, rfl, hel⟩ := SlP.elem hvr (k := i * 32) (by rw [flat_len]; omega)
  have hxe : (Ty.at_ 61 x.enc).p w4 (.pointer (some ⟨gv, ov + i * 32, none⟩)) := by
    have h := hel (i * 32)
    rw [flat_at D hlt, ← hx] at h
    obtain ⟨g, off, cs, fr, h1, h2, h3⟩ := h
    exact ⟨g, off, cs, fr, h1, h2, fun j u hu => h3 j u (by rw [List.getElem?_append_left (List.getElem?_eq_some_iff.1 hu).1]; exact hu)⟩
  have hss : (Ty.sums 61 s).p w4 (.slice A s.length c) := hseg.sl
  repeat (first | with_reducible refine wp_seq ?_ | with_reducible refine nThen ?_ | with_reducible refine nBlk ?_ | with_reducible refine wp_skip ?_ | with_reducible refine wp_block ?_ | with_reducible refine wp_exit ?_ | with_reducible refine xThen ?_ | with_reducible refine xHere ?_ | with_reducible refine xFar (by decide) ?_ | with_reducible refine wp_ret ?_ | with_reducible refine rThen ?_ | with_reducible refine rBlk ?_)
  refine' reg_all hF ?_ mixed (by kernel_rfl) ?_
  rotate_left
  · repeat (first
        | exact Line.nil
        | (refine' Line.cons rfl (.no rfl rfl rfl rfl rfl rfl) ?_; rotate_left)
        | ((first | refine' Line.cons rfl (.run rfl rfl ?_) ?_ | refine' Line.cons rfl (.yes rfl rfl rfl rfl ?_) ?_)
           any_goals (first | exact cMove rfl rfl | exact cAssign rfl rfl | exact cNot rfl rfl | exact cLenEx rfl rfl Try.underlying58 | exact cPickT rfl rfl rfl | exact cPickF rfl rfl rfl | exact cLss rfl rfl rfl | exact cLeq rfl rfl rfl | exact cGtr rfl rfl rfl | exact cGeq rfl rfl rfl | exact cEql rfl rfl rfl | exact cNeq rfl rfl rfl | exact cExtract rfl rfl rfl)
           rotate_left))
  intro a w5 hF hb hN
  have hBs := hB.size
  replace hB := hB.trans (hb.mono hB.size)
  dsimp only [ext, Option.getD] at hF
  repeat (first | with_reducible refine wp_seq ?_ | with_reducible refine nThen ?_ | with_reducible refine nBlk ?_ | with_reducible refine wp_skip ?_ | with_reducible refine wp_block ?_ | with_reducible refine wp_exit ?_ | with_reducible refine xThen ?_ | with_reducible refine xHere ?_ | with_reducible refine xFar (by decide) ?_ | with_reducible refine wp_ret ?_ | with_reducible refine rThen ?_ | with_reducible refine rBlk ?_)
  replace hseg := hseg.below hb
  replace hvr := TD.below hvr hb
  replace hxe := (Ty.at_ 61 x.enc).below hxe hb
  refine wp_mono (Q := fun e a wr => e = .exit 2 ∧ ∃ k : Nat, k ≤ s.length ∧ Fr 61 [(0, Ty.ex (.slice (some ⟨gv, ov, none⟩) D.length cv)), (3, Ty.ex (.slice A s.length c)), (4, Ty.ex (.int .i64 (i : Int))), (5, Ty.ex (.int .i64 (k : Int)))] a wr ∧ Below w.heap.size w wr ∧ Seg wr 61 32 (.slice A s.length c) s.length (flat s) S ∧ TD.p wr (.slice (some ⟨gv, ov, none⟩) D.length cv) ∧ (Ty.at_ 61 x.enc).p wr (.pointer (some ⟨gv, ov + i * 32, none⟩)) ∧ (∀ j, k ≤ j → j < s.length → 0 < cmpL (s.getD j default).l x.l) ∧ (k = 0 ∨ ¬ 0 < cmpL (s.getD (k - 1) default).l x.l)) ?_ ?_
  · refine loop_ty (fun m a wr => ∃ k : Nat, k = m ∧ k ≤ s.length ∧ Fr 61 [(0, Ty.ex (.slice (some ⟨gv, ov, none⟩) D.length cv)), (3, Ty.ex (.slice A s.length c)), (4, Ty.ex (.int .i64 (i : Int))), (5, Ty.ex (.int .i64 (k : Int)))] a wr ∧ Below w.heap.size w wr ∧ Seg wr 61 32 (.slice A s.length c) s.length (flat s) S ∧ TD.p wr (.slice (some ⟨gv, ov, none⟩) D.length cv) ∧ (Ty.at_ 61 x.enc).p wr (.pointer (some ⟨gv, ov + i * 32, none⟩)) ∧ ∀ j, k ≤ j → j < s.length → 0 < cmpL (s.getD j default).l x.l) s.length ?_ ?_
    · exact ⟨s.length, rfl, Nat.le_refl _, hF.keep [0, 3, 4, 5], hB, hseg, hvr, hxe, fun j hj hj2 => by omega⟩
    clear hF hB hb hBs hseg hvr hxe hss hel hrd hv
    rintro m a wr ⟨k, rfl, hk, hF, hB, hseg, hvr, hxr, hhi⟩
    have hsr : (Ty.sums 61 s).p wr (.slice A s.length c) := hseg.sl
    repeat (first | with_reducible refine wp_seq ?_ | with_reducible refine nThen ?_ | with_reducible refine nBlk ?_ | with_reducible refine wp_skip ?_ | with_reducible refine wp_block ?_ | with_reducible refine wp_exit ?_ | with_reducible refine xThen ?_ | with_reducible refine xHere ?_ | with_reducible refine xFar (by decide) ?_ | with_reducible refine wp_ret ?_ | with_reducible refine rThen ?_ | with_reducible refine rBlk ?_)
    by_cases hk0 : k = 0
    · subst hk0
      refine' reg_all hF ?_ mixed (by kernel_rfl) ?_
      rotate_left
      · repeat (first
            | exact Line.nil
            | (refine' Line.cons rfl (.no rfl rfl rfl rfl rfl rfl) ?_; rotate_left)
            | ((first | refine' Line.cons rfl (.run rfl rfl ?_) ?_ | refine' Line.cons rfl (.yes rfl rfl rfl rfl ?_) ?_)
               any_goals (first | exact cMove rfl rfl | exact cAssign rfl rfl | exact cNot rfl rfl | exact OpOk.b (c := false) (cGtr rfl rfl rfl) rfl | exact cPickT rfl rfl rfl | exact cPickF rfl rfl rfl | exact cLss rfl rfl rfl | exact cLeq rfl rfl rfl | exact cGtr rfl rfl rfl | exact cGeq rfl rfl rfl | exact cEql rfl rfl rfl | exact cNeq rfl rfl rfl | exact cExtract rfl rfl rfl)
               rotate_left))
      intro a w5 hF hb hN
      have hBs := hB.size
      replace hB := hB.trans (hb.mono hB.size)
      dsimp only [ext, Option.getD] at hF
      repeat (first | with_reducible refine wp_seq ?_ | with_reducible refine nThen ?_ | with_reducible refine nBlk ?_ | with_reducible refine wp_skip ?_ | with_reducible refine wp_block ?_ | with_reducible refine wp_exit ?_ | with_reducible refine xThen ?_ | with_reducible refine xHere ?_ | with_reducible refine xFar (by decide) ?_ | with_reducible refine wp_ret ?_ | with_reducible refine rThen ?_ | with_reducible refine rBlk ?_)
      refine cond_f hF rfl ?_
      repeat (first | with_reducible refine wp_seq ?_ | with_reducible refine nThen ?_ | with_reducible refine nBlk ?_ | with_reducible refine wp_skip ?_ | with_reducible refine wp_block ?_ | with_reducible refine wp_exit ?_ | with_reducible refine xThen ?_ | with_reducible refine xHere ?_ | with_reducible refine xFar (by decide) ?_ | with_reducible refine wp_ret ?_ | with_reducible refine rThen ?_ | with_reducible refine rBlk ?_)
      exact ⟨rfl, 0, hk, hF.keep [0, 3, 4, 5], hB, hseg.below hb, TD.below hvr hb, (Ty.at_ 61 x.enc).below hxr hb, hhi, .inl rfl⟩
    · refine' reg_all hF ?_ mixed (by kernel_rfl) ?_
      rotate_left
      · repeat (first
            | exact Line.nil
            | (refine' Line.cons rfl (.no rfl rfl rfl rfl rfl rfl) ?_; rotate_left)
            | ((first | refine' Line.cons rfl (.run rfl rfl ?_) ?_ | refine' Line.cons rfl (.yes rfl rfl rfl rfl ?_) ?_)
               any_goals (first | exact cMove rfl rfl | exact cAssign rfl rfl | exact cNot rfl rfl | exact OpOk.b (c := true) (cGtr rfl rfl rfl) (decide_eq_true (by omega)) | exact cSub (r := ((k - 1 : Nat) : Int)) rfl rfl rfl (by omega) | exact cIndexEx (k := i) (sz := 32) rfl rfl rfl Try.underlying57 sizeR hlt | exact cIndexSum (k := k - 1) rfl (.l rfl hsr) rfl Try.underlying58 sizeR (by omega) | exact cLoadSum rfl (.l rfl hxr) Try.underlying61 sizeR | exact cLoadSum rfl (.t rfl) Try.underlying61 sizeR | exact cCall2 rfl rfl rfl (r1cmp_ty _ _) | exact cPickT rfl rfl rfl | exact cPickF rfl rfl rfl | exact cLss rfl rfl rfl | exact cLeq rfl rfl rfl | exact cGtr rfl rfl rfl | exact cGeq rfl rfl rfl | exact cEql rfl rfl rfl | exact cNeq rfl rfl rfl | exact cExtract rfl rfl rfl)
               rotate_left))
      intro a w5 hF hb hN
      have hBs := hB.size
      replace hB := hB.trans (hb.mono hB.size)
      dsimp only [ext, Option.getD] at hF
      repeat (first | with_reducible refine wp_seq ?_ | with_reducible refine nThen ?_ | with_reducible refine nBlk ?_ | with_reducible refine wp_skip ?_ | with_reducible refine wp_block ?_ | with_reducible refine wp_exit ?_ | with_reducible refine xThen ?_ | with_reducible refine xHere ?_ | with_reducible refine xFar (by decide) ?_ | with_reducible refine wp_ret ?_ | with_reducible refine rThen ?_ | with_reducible refine rBlk ?_)
      replace hseg := hseg.below hb
      replace hvr := TD.below hvr hb
      replace hxr := (Ty.at_ 61 x.enc).below hxr hb
      refine cond_ty hF rfl (fun hgt => ?_) (fun hle => ?_)
      · have hgt : 0 < cmpL (s.getD (k - 1) default).l x.l := of_decide_eq_true hgt
        repeat (first | with_reducible refine wp_seq ?_ | with_reducible refine nThen ?_ | with_reducible refine nBlk ?_ | with_reducible refine wp_skip ?_ | with_reducible refine wp_block ?_ | with_reducible refine wp_exit ?_ | with_reducible refine xThen ?_ | with_reducible refine xHere ?_ | with_reducible refine xFar (by decide) ?_ | with_reducible refine wp_ret ?_ | with_reducible refine rThen ?_ | with_reducible refine rBlk ?_)
        replace hseg := hseg.below (Below.refl _ _)
        refine' reg_all hF ?_ mixed (by kernel_rfl) ?_
        rotate_left
        · repeat (first
              | exact Line.nil
              | (refine' Line.cons rfl (.no rfl rfl rfl rfl rfl rfl) ?_; rotate_left)
              | ((first | refine' Line.cons rfl (.run rfl rfl ?_) ?_ | refine' Line.cons rfl (.yes rfl rfl rfl rfl ?_) ?_)
                 any_goals (first | exact cMove rfl rfl | exact cAssign rfl rfl | exact cNot rfl rfl | exact cSub (r := ((k - 1 : Nat) : Int)) rfl rfl rfl (by omega) | exact cPickT rfl rfl rfl | exact cPickF rfl rfl rfl | exact cLss rfl rfl rfl | exact cLeq rfl rfl rfl | exact cGtr rfl rfl rfl | exact cGeq rfl rfl rfl | exact cEql rfl rfl rfl | exact cNeq rfl rfl rfl | exact cExtract rfl rfl rfl)
                 rotate_left))
        intro a w6 hF hb hN
        have hBs := hB.size
        replace hB := hB.trans (hb.mono hB.size)
        dsimp only [ext, Option.getD] at hF
        repeat (first | with_reducible refine wp_seq ?_ | with_reducible refine nThen ?_ | with_reducible refine nBlk ?_ | with_reducible refine wp_skip ?_ | with_reducible refine wp_block ?_ | with_reducible refine wp_exit ?_ | with_reducible refine xThen ?_ | with_reducible refine xHere ?_ | with_reducible refine xFar (by decide) ?_ | with_reducible refine wp_ret ?_ | with_reducible refine rThen ?_ | with_reducible refine rBlk ?_)
        refine ⟨k - 1, by omega, k - 1, rfl, by omega, hF.keep [0, 3, 4, 5], hB, hseg.below hb, TD.below hvr hb, (Ty.at_ 61 x.enc).below hxr hb, fun j hj hj2 => ?_⟩
        by_cases hjk : k ≤ j
        · exact hhi j hjk hj2
        · obtain rfl : j = k - 1 := by omega
          exact hgt
      · have hle : ¬ 0 < cmpL (s.getD (k - 1) default).l x.l := of_decide_eq_false hle
        repeat (first | with_reducible refine wp_seq ?_ | with_reducible refine nThen ?_ | with_reducible refine nBlk ?_ | with_reducible refine wp_skip ?_ | with_reducible refine wp_block ?_ | with_reducible refine wp_exit ?_ | with_reducible refine xThen ?_ | with_reducible refine xHere ?_ | with_reducible refine xFar (by decide) ?_ | with_reducible refine wp_ret ?_ | with_reducible refine rThen ?_ | with_reducible refine rBlk ?_)
        exact ⟨rfl, k, hk, hF.keep [0, 3, 4, 5], hB, hseg, hvr, hxr, hhi, .inr hle⟩
  clear hF hB hb hBs hseg hvr hxe hss hel hrd hv
  rintro e a wr ⟨rfl, k, hk, hF, hB, hseg, hvr, hxr, hhi, hlo⟩
  have hsr : (Ty.sums 61 s).p wr (.slice A s.length c) := hseg.sl
  repeat (first | with_reducible refine wp_seq ?_ | with_reducible refine nThen ?_ | with_reducible refine nBlk ?_ | with_reducible refine wp_skip ?_ | with_reducible refine wp_block ?_ | with_reducible refine wp_exit ?_ | with_reducible refine xThen ?_ | with_reducible refine xHere ?_ | with_reducible refine xFar (by decide) ?_ | with_reducible refine wp_ret ?_ | with_reducible refine rThen ?_ | with_reducible refine rBlk ?_)
  -- is it there?
  refine wp_mono (Q := fun e a wr => e = .normal ∧ Fr 61 [(0, Ty.ex (.slice (some ⟨gv, ov, none⟩) D.length cv)), (3, Ty.ex (.slice A s.length c)), (4, Ty.ex (.int .i64 (i : Int))), (5, Ty.ex (.int .i64 (k : Int))), (44, Ty.ex (.bool (decide (0 < k ∧ s.getD (k - 1) default = x))))] a wr ∧ Below w.heap.size w wr ∧ Seg wr 61 32 (.slice A s.length c) s.length (flat s) S ∧ TD.p wr (.slice (some ⟨gv, ov, none⟩) D.length cv) ∧ (Ty.at_ 61 x.enc).p wr (.pointer (some ⟨gv, ov + i * 32, none⟩))) ?_ ?_
  · by_cases hk0 : k = 0
    · subst hk0
      refine' reg_all hF ?_ mixed (by kernel_rfl) ?_
      rotate_left
      · repeat (first
            | exact Line.nil
            | (refine' Line.cons rfl (.no rfl rfl rfl rfl rfl rfl) ?_; rotate_left)
            | ((first | refine' Line.cons rfl (.run rfl rfl ?_) ?_ | refine' Line.cons rfl (.yes rfl rfl rfl rfl ?_) ?_)
               any_goals (first | exact cMove rfl rfl | exact cAssign rfl rfl | exact cNot rfl rfl | exact OpOk.b (c := false) (cGtr rfl rfl rfl) rfl | exact cPickT rfl rfl rfl | exact cPickF rfl rfl rfl | exact cLss rfl rfl rfl | exact cLeq rfl rfl rfl | exact cGtr rfl rfl rfl | exact cGeq rfl rfl rfl | exact cEql rfl rfl rfl | exact cNeq rfl rfl rfl | exact cExtract rfl rfl rfl)
               rotate_left))
      intro a w5 hF hb hN
      have hBs := hB.size
      replace hB := hB.trans (hb.mono hB.size)
      dsimp only [ext, Option.getD] at hF
      repeat (first | with_reducible refine wp_seq ?_ | with_reducible refine nThen ?_ | with_reducible refine nBlk ?_ | with_reducible refine wp_skip ?_ | with_reducible refine wp_block ?_ | with_reducible refine wp_exit ?_ | with_reducible refine xThen ?_ | with_reducible refine xHere ?_ | with_reducible refine xFar (by decide) ?_ | with_reducible refine wp_ret ?_ | with_reducible refine rThen ?_ | with_reducible refine rBlk ?_)
      exact ⟨rfl, hF.keep [0, 3, 4, 5, 44], hB, hseg.below hb, TD.below hvr hb, (Ty.at_ 61 x.enc).below hxr hb⟩
    · have e : decide (0 < k ∧ s.getD (k - 1) default = x) = decide (s.getD (k - 1) default = x) := by
        rw [decide_eq_decide]
        exact ⟨fun h => h.2, fun h => ⟨by omega, h⟩⟩
      rw [e]
      refine' reg_all hF ?_ mixed (by kernel_rfl) ?_
      rotate_left
      · repeat (first
            | exact Line.nil
            | (refine' Line.cons rfl (.no rfl rfl rfl rfl rfl rfl) ?_; rotate_left)
            | ((first | refine' Line.cons rfl (.run rfl rfl ?_) ?_ | refine' Line.cons rfl (.yes rfl rfl rfl rfl ?_) ?_)
               any_goals (first | exact cMove rfl rfl | exact cAssign rfl rfl | exact cNot rfl rfl | exact OpOk.b (c := true) (cGtr rfl rfl rfl) (decide_eq_true (by omega)) | exact cSub (r := ((k - 1 : Nat) : Int)) rfl rfl rfl (by omega) | exact cIndexEx (k := i) (sz := 32) rfl rfl rfl Try.underlying57 sizeR hlt | exact cIndexSum (k := k - 1) rfl (.l rfl hsr) rfl Try.underlying58 sizeR (by omega) | exact cLoadSum rfl (.l rfl hxr) Try.underlying61 sizeR | exact cLoadSum rfl (.t rfl) Try.underlying61 sizeR | exact cEqlAgg rfl rfl rfl guardR (fun w => eqlR _ _ w) | exact cPickT rfl rfl rfl | exact cPickF rfl rfl rfl | exact cLss rfl rfl rfl | exact cLeq rfl rfl rfl | exact cGtr rfl rfl rfl | exact cGeq rfl rfl rfl | exact cEql rfl rfl rfl | exact cNeq rfl rfl rfl | exact cExtract rfl rfl rfl)
               rotate_left))
      intro a w5 hF hb hN
      have hBs := hB.size
      replace hB := hB.trans (hb.mono hB.size)
      dsimp only [ext, Option.getD] at hF
      repeat (first | with_reducible refine wp_seq ?_ | with_reducible refine nThen ?_ | with_reducible refine nBlk ?_ | with_reducible refine wp_skip ?_ | with_reducible refine wp_block ?_ | with_reducible refine wp_exit ?_ | with_reducible refine xThen ?_ | with_reducible refine xHere ?_ | with_reducible refine xFar (by decide) ?_ | with_reducible refine wp_ret ?_ | with_reducible refine rThen ?_ | with_reducible refine rBlk ?_)
      exact ⟨rfl, hF.keep [0, 3, 4, 5, 44], hB, hseg.below hb, TD.below hvr hb, (Ty.at_ 61 x.enc).below hxr hb⟩
  clear hF hB hseg hvr hxr hsr
  rintro e a wr ⟨rfl, hF, hB, hseg, hvr, hxr⟩
  repeat (first | with_reducible refine wp_seq ?_ | with_reducible refine nThen ?_ | with_reducible refine nBlk ?_ | with_reducible refine wp_skip ?_ | with_reducible refine wp_block ?_ | with_reducible refine wp_exit ?_ | with_reducible refine xThen ?_ | with_reducible refine xHere ?_ | with_reducible refine xFar (by decide) ?_ | with_reducible refine wp_ret ?_ | with_reducible refine rThen ?_ | with_reducible refine rBlk ?_)
  refine cond_ty hF rfl (fun hth => ?_) (fun hno => ?_)
  · have hth := of_decide_eq_true hth
    have e : s = setL (D.take (i + 1)) := by rw [htk]; exact ins_same hk hth.1 hth.2 _ hs
    rw [e] at hseg
    repeat (first | with_reducible refine wp_seq ?_ | with_reducible refine nThen ?_ | with_reducible refine nBlk ?_ | with_reducible refine wp_skip ?_ | with_reducible refine wp_block ?_ | with_reducible refine wp_exit ?_ | with_reducible refine xThen ?_ | with_reducible refine xHere ?_ | with_reducible refine xFar (by decide) ?_ | with_reducible refine wp_ret ?_ | with_reducible refine rThen ?_ | with_reducible refine rBlk ?_)
    rw [e] at hF
    refine' reg_all hF ?_ mixed (by kernel_rfl) ?_
    rotate_left
    · repeat (first
          | exact Line.nil
          | (refine' Line.cons rfl (.no rfl rfl rfl rfl rfl rfl) ?_; rotate_left)
          | ((first | refine' Line.cons rfl (.run rfl rfl ?_) ?_ | refine' Line.cons rfl (.yes rfl rfl rfl rfl ?_) ?_)
             any_goals (first | exact cMove rfl rfl | exact cAssign rfl rfl | exact cNot rfl rfl | exact cAdd (r := ((i + 1 : Nat) : Int)) rfl rfl rfl (by omega) | exact cPickT rfl rfl rfl | exact cPickF rfl rfl rfl | exact cLss rfl rfl rfl | exact cLeq rfl rfl rfl | exact cGtr rfl rfl rfl | exact cGeq rfl rfl rfl | exact cEql rfl rfl rfl | exact cNeq rfl rfl rfl | exact cExtract rfl rfl rfl)
             rotate_left))
    intro a w6 hF hb hN
    have hBs := hB.size
    replace hB := hB.trans (hb.mono hB.size)
    dsimp only [ext, Option.getD] at hF
    repeat (first | with_reducible refine wp_seq ?_ | with_reducible refine nThen ?_ | with_reducible refine nBlk ?_ | with_reducible refine wp_skip ?_ | with_reducible refine wp_block ?_ | with_reducible refine wp_exit ?_ | with_reducible refine xThen ?_ | with_reducible refine xHere ?_ | with_reducible refine xFar (by decide) ?_ | with_reducible refine wp_ret ?_ | with_reducible refine rThen ?_ | with_reducible refine rBlk ?_)
    refine ⟨m - 1, by omega, i + 1, .slice A (setL (D.take (i + 1))).length c, S, by omega, hF.keep [0, 3, 4], hB, hseg.below hb, hS⟩
  have hno := of_decide_eq_false hno
  have e : s.take k ++ [x] ++ s.drop k = setL (D.take (i + 1)) := by
    rw [htk]
    refine ins_new hk hhi hlo ?_ _ hs
    by_cases hk0 : k = 0
    · exact .inl hk0
    · exact .inr fun h => hno ⟨by omega, h⟩
  have hwr : w.heap.size ≤ wr.heap.size := hB.size
  have hsr : (Ty.sums 61 s).p wr (.slice A s.length c) := hseg.sl
  have h48 : (Ty.sl 61 k (flat (s.take k))).p wr (.slice A k c) := by rw [← flat_take]; exact SlP.takeA hsr hk _
  have h58 : (Ty.sl 61 (s.length - k) (flat (s.drop k))).p wr (.slice (if c = k then A else A.map (·.add (k * 32))) (s.length - k) (c - k)) := by rw [← flat_drop]; exact SlP.dropA hsr hk (flat_len s)
  have l1 : (flat (s.take k)).length = k * 32 := by rw [flat_len, List.length_take, Nat.min_eq_left hk]
  have l2 : (flat [x]).length = 1 * 32 := by rw [flat_len]; rfl
  have l3 : (flat (s.drop k)).length = (s.length - k) * 32 := by rw [flat_len, List.length_drop]
  repeat (first | with_reducible refine wp_seq ?_ | with_reducible refine nThen ?_ | with_reducible refine nBlk ?_ | with_reducible refine wp_skip ?_ | with_reducible refine wp_block ?_ | with_reducible refine wp_exit ?_ | with_reducible refine xThen ?_ | with_reducible refine xHere ?_ | with_reducible refine xFar (by decide) ?_ | with_reducible refine wp_ret ?_ | with_reducible refine rThen ?_ | with_reducible refine rBlk ?_)
  refine' region_own 15 [(4, 45), (10, 49), (14, 55)] mixed (by kernel_rfl) hF ?_ ?_
  rotate_left
  · simp only [List.take_succ_cons, List.take_zero]
    repeat (first
        | exact LineO.nil
        | (refine' LineO.cons rfl rfl (.no rfl rfl rfl rfl rfl) ?_; rotate_left)
        | ((first | refine' LineO.cons rfl rfl (.run rfl ?_) ?_ | refine' LineO.cons rfl rfl (.yes rfl rfl rfl ?_) ?_)
           any_goals (first | exact .ex (cMove rfl rfl) | exact .ex (cAssign rfl rfl) | exact .ex (cNot rfl rfl) | exact oBuild0 rfl Try.underlying58 infoR1 | exact .ex (cSliceHiA rfl rfl rfl Try.underlying58 sizeR hk hnc (fun h => (hAn h).2)) | exact .ex (cIndexEx (k := i) (sz := 32) rfl rfl rfl Try.underlying57 sizeR hlt) | exact .ex (cLoadSum rfl (.l rfl hxr) Try.underlying61 sizeR) | exact oBuildSum1 (x := x) rfl rfl Try.underlying58 infoR1 | exact .ex (cSliceLoA (k := k) rfl rfl rfl Try.underlying58 sizeR hk) | exact .ex (cPickT rfl rfl rfl) | exact .ex (cPickF rfl rfl rfl) | exact .ex (cLss rfl rfl rfl) | exact .ex (cLeq rfl rfl rfl) | exact .ex (cGtr rfl rfl rfl) | exact .ex (cGeq rfl rfl rfl) | exact .ex (cEql rfl rfl rfl) | exact .ex (cNeq rfl rfl rfl) | exact .ex (cExtract rfl rfl rfl))
           rotate_left)
        | ((first | refine' LineO.take rfl rfl rfl (.run rfl ?_) ?_ | refine' LineO.take rfl rfl rfl (.yes rfl rfl rfl ?_) ?_)
           any_goals (first | exact tkAppend (m := k) (news := flat (s.take k)) rfl Try.underlying58 infoR1 zero32_size (.l rfl h48) sl_news l1 flat_one' (by simp [maxLen]; omega) (by omega) | exact tkAppend (m := 1) (news := flat [x]) rfl Try.underlying58 infoR1 zero32_size (.t rfl) seg_news l2 flat_one' (by simp [maxLen]; omega) (by omega) | exact tkAppend (m := s.length - k) (news := flat (s.drop k)) rfl Try.underlying58 infoR1 zero32_size (.l rfl h58) sl_news l3 flat_one' (by simp [maxLen]; omega) (by omega))
           rotate_left))
  intro a w6 hF hb hN
  have hBs := hb.size
  replace hB := hB.trans (hb.mono hB.size)
  simp only [List.take_succ_cons, List.take_zero, List.drop_succ_cons, List.drop_zero] at hF hN ⊢
  dsimp only [hideT, List.foldr, extO, Option.getD, OTy.ex, OTy.seg, OTy.slo, OTy.var] at hF
  replace hvr := TD.below hvr hb
  obtain ⟨u, ⟨S', hsg, hS'⟩, hF⟩ := hF.open (s := 59) rfl
  have en : 0 + k + 1 + (s.length - k) = (setL (D.take (i + 1))).length := by rw [← e]; simp; omega
  have ex : [] ++ flat (s.take k) ++ flat [x] ++ flat (s.drop k) = flat (setL (D.take (i + 1))) := by rw [← e, flat_append, flat_append, List.nil_append]
  rw [en, ex] at hsg
  refine' tlOp hF rfl rfl rfl ?_ ?_
  rotate_left
  · first | exact cMove rfl rfl | exact cAssign rfl rfl | exact cPickT rfl rfl rfl | exact cPickF rfl rfl rfl | exact cNot rfl rfl | exact cLss rfl rfl rfl | exact cLeq rfl rfl rfl | exact cGtr rfl rfl rfl | exact cGeq rfl rfl rfl | exact cEql rfl rfl rfl | exact cNeq rfl rfl rfl | exact cExtract rfl rfl rfl
  intro a w7 hF hb
  have hBs := hB.size
  replace hB := hB.trans (hb.mono hB.size)
  try (refine wpList_nil ?_)
  repeat (first | with_reducible refine wp_seq ?_ | with_reducible refine nThen ?_ | with_reducible refine nBlk ?_ | with_reducible refine wp_skip ?_ | with_reducible refine wp_block ?_ | with_reducible refine wp_exit ?_ | with_reducible refine xThen ?_ | with_reducible refine xHere ?_ | with_reducible refine xFar (by decide) ?_ | with_reducible refine wp_ret ?_ | with_reducible refine rThen ?_ | with_reducible refine rBlk ?_)
  replace hsg := hsg.below hb
  refine' reg_all hF ?_ mixed (by kernel_rfl) ?_
  rotate_left
  · repeat (first
        | exact Line.nil
        | (refine' Line.cons rfl (.no rfl rfl rfl rfl rfl rfl) ?_; rotate_left)
        | ((first | refine' Line.cons rfl (.run rfl rfl ?_) ?_ | refine' Line.cons rfl (.yes rfl rfl rfl rfl ?_) ?_)
           any_goals (first | exact cMove rfl rfl | exact cAssign rfl rfl | exact cNot rfl rfl | exact cAdd (r := ((i + 1 : Nat) : Int)) rfl rfl rfl (by omega) | exact cPickT rfl rfl rfl | exact cPickF rfl rfl rfl | exact cLss rfl rfl rfl | exact cLeq rfl rfl rfl | exact cGtr rfl rfl rfl | exact cGeq rfl rfl rfl | exact cEql rfl rfl rfl | exact cNeq rfl rfl rfl | exact cExtract rfl rfl rfl)
           rotate_left))
  intro a w8 hF hb hN
  have hBs := hB.size
  replace hB := hB.trans (hb.mono hB.size)
  dsimp only [ext, Option.getD] at hF
  repeat (first | with_reducible refine wp_seq ?_ | with_reducible refine nThen ?_ | with_reducible refine nBlk ?_ | with_reducible refine wp_skip ?_ | with_reducible refine wp_block ?_ | with_reducible refine wp_exit ?_ | with_reducible refine xThen ?_ | with_reducible refine xHere ?_ | with_reducible refine xFar (by decide) ?_ | with_reducible refine wp_ret ?_ | with_reducible refine rThen ?_ | with_reducible refine rBlk ?_)
  exact ⟨m - 1, by omega, i + 1, u, S', by omega, hF.keep [0, 3, 4], hB, hsg.below hb, fun y hy => Nat.le_trans hwr (hS' y hy)⟩
end Go.Proofs.Ytmlbkcpmgcjblaa

/- Layer 15 by types: the document's Count and TableOf. -/
namespace Go.Proofs.Ytmlbkcpmgcjblaa
open Go.RowKit

set_option maxRecDepth 100000 in
set_option maxHeartbeats 2000000 in
theorem rtcount_ty (seed : Nat) (L : List Cl) (hL : L.length ≤ 1000000) : Fn1 Try.prog 46 (Ty.tab 105 seed L) (Ty.ex (.int .i64 (countN L))) := by
  refine ⟨fun args w => by kernel_rfl, fun w v ⟨s, hv, hs⟩ => ?_⟩
  subst hv
  have hG := goodCells_ty (L.length : Int)
  let TL := Ty.cls 105 L
  obtain ⟨p, hp⟩ : ∃ p, p = L.length / 3 := ⟨_, rfl⟩
  have hpl : p ≤ L.length := by omega
  unfold countN
  by_cases hgn : goodN (L.length : Int) = true
  rotate_left
  · have hgn : goodN (L.length : Int) = false := by simpa using hgn
    rw [hgn] at hG ⊢
    refine enter_ty 28 [Ty.ex (.agg #[.int .u64 (seed : Int), s])] Try.func46 rfl (by kernel_rfl) ⟨rfl, trivial⟩ fun a hF => ?_
    have hB := Below.refl w.heap.size w
    repeat (first | with_reducible refine wp_seq ?_ | with_reducible refine nThen ?_ | with_reducible refine nBlk ?_ | with_reducible refine wp_skip ?_ | with_reducible refine wp_block ?_ | with_reducible refine wp_exit ?_ | with_reducible refine xThen ?_ | with_reducible refine xHere ?_ | with_reducible refine xFar (by decide) ?_ | with_reducible refine wp_ret ?_ | with_reducible refine rThen ?_ | with_reducible refine rBlk ?_)
    refine' reg_all hF ?_ mixed (by kernel_rfl) ?_
    rotate_left
    · repeat (first
          | exact Line.nil
          | (refine' Line.cons rfl (.no rfl rfl rfl rfl rfl rfl) ?_; rotate_left)
          | ((first | refine' Line.cons rfl (.run rfl rfl ?_) ?_ | refine' Line.cons rfl (.yes rfl rfl rfl rfl ?_) ?_)
             any_goals (first | exact cMove rfl rfl | exact cAssign rfl rfl | exact cNot rfl rfl | exact cBoxTab rfl rfl | exact cPickT rfl rfl rfl | exact cPickF rfl rfl rfl | exact cLss rfl rfl rfl | exact cLeq rfl rfl rfl | exact cGtr rfl rfl rfl | exact cGeq rfl rfl rfl | exact cEql rfl rfl rfl | exact cNeq rfl rfl rfl | exact cExtract rfl rfl rfl)
             rotate_left))
    intro a w1 hF hb hN
    have hBs := hB.size
    replace hB := hB.trans (hb.mono hB.size)
    dsimp only [ext, Option.getD] at hF
    repeat (first | with_reducible refine wp_seq ?_ | with_reducible refine nThen ?_ | with_reducible refine nBlk ?_ | with_reducible refine wp_skip ?_ | with_reducible refine wp_block ?_ | with_reducible refine wp_exit ?_ | with_reducible refine xThen ?_ | with_reducible refine xHere ?_ | with_reducible refine xFar (by decide) ?_ | with_reducible refine wp_ret ?_ | with_reducible refine rThen ?_ | with_reducible refine rBlk ?_)
    refine' reg_all hF ?_ mixed (by kernel_rfl) ?_
    rotate_left
    · repeat (first
          | exact Line.nil
          | (refine' Line.cons rfl (.no rfl rfl rfl rfl rfl rfl) ?_; rotate_left)
          | ((first | refine' Line.cons rfl (.run rfl rfl ?_) ?_ | refine' Line.cons rfl (.yes rfl rfl rfl rfl ?_) ?_)
             any_goals (first | exact cMove rfl rfl | exact cAssign rfl rfl | exact cNot rfl rfl | exact cPickT rfl rfl rfl | exact cPickF rfl rfl rfl | exact cLss rfl rfl rfl | exact cLeq rfl rfl rfl | exact cGtr rfl rfl rfl | exact cGeq rfl rfl rfl | exact cEql rfl rfl rfl | exact cNeq rfl rfl rfl | exact cExtract rfl rfl rfl)
             rotate_left))
    intro a w2 hF hb hN
    have hBs := hB.size
    replace hB := hB.trans (hb.mono hB.size)
    dsimp only [ext, Option.getD] at hF
    repeat (first | with_reducible refine wp_seq ?_ | with_reducible refine nThen ?_ | with_reducible refine nBlk ?_ | with_reducible refine wp_skip ?_ | with_reducible refine wp_block ?_ | with_reducible refine wp_exit ?_ | with_reducible refine xThen ?_ | with_reducible refine xHere ?_ | with_reducible refine xFar (by decide) ?_ | with_reducible refine wp_ret ?_ | with_reducible refine rThen ?_ | with_reducible refine rBlk ?_)
    refine' reg_all hF ?_ mixed (by kernel_rfl) ?_
    rotate_left
    · repeat (first
          | exact Line.nil
          | (refine' Line.cons rfl (.no rfl rfl rfl rfl rfl rfl) ?_; rotate_left)
          | ((first | refine' Line.cons rfl (.run rfl rfl ?_) ?_ | refine' Line.cons rfl (.yes rfl rfl rfl rfl ?_) ?_)
             any_goals (first | exact cMove rfl rfl | exact cAssign rfl rfl | exact cNot rfl rfl | exact cPickT rfl rfl rfl | exact cPickF rfl rfl rfl | exact cLss rfl rfl rfl | exact cLeq rfl rfl rfl | exact cGtr rfl rfl rfl | exact cGeq rfl rfl rfl | exact cEql rfl rfl rfl | exact cNeq rfl rfl rfl | exact cExtract rfl rfl rfl)
             rotate_left))
    intro a w3 hF hb hN
    have hBs := hB.size
    replace hB := hB.trans (hb.mono hB.size)
    dsimp only [ext, Option.getD] at hF
    repeat (first | with_reducible refine wp_seq ?_ | with_reducible refine nThen ?_ | with_reducible refine nBlk ?_ | with_reducible refine wp_skip ?_ | with_reducible refine wp_block ?_ | with_reducible refine wp_exit ?_ | with_reducible refine xThen ?_ | with_reducible refine xHere ?_ | with_reducible refine xFar (by decide) ?_ | with_reducible refine wp_ret ?_ | with_reducible refine rThen ?_ | with_reducible refine rBlk ?_)
    have hs3 := TL.below hs hB
    refine loop_ty (fun m a wr => m = 0 ∧ Fr 28 [(1, Ty.at_ 52 [.int .u64 (seed : Int), s]), (3, Ty.ex (.int .i64 0)), (4, Ty.ex (.int .i64 0))] a wr ∧ Below w.heap.size w wr) 0 ?_ ?_
    · exact ⟨rfl, hF.keep [1, 3, 4], hB⟩
    clear hF hB hs3
    rintro m a wr ⟨hm, hF, hB⟩
    have hs3 := TL.below hs hB
    repeat (first | with_reducible refine wp_seq ?_ | with_reducible refine nThen ?_ | with_reducible refine nBlk ?_ | with_reducible refine wp_skip ?_ | with_reducible refine wp_block ?_ | with_reducible refine wp_exit ?_ | with_reducible refine xThen ?_ | with_reducible refine xHere ?_ | with_reducible refine xFar (by decide) ?_ | with_reducible refine wp_ret ?_ | with_reducible refine rThen ?_ | with_reducible refine rBlk ?_)
    by_cases hp0 : 0 < p
    · refine' reg_all hF ?_ mixed (by kernel_rfl) ?_
      rotate_left
      · repeat (first
            | exact Line.nil
            | (refine' Line.cons rfl (.no rfl rfl rfl rfl rfl rfl) ?_; rotate_left)
            | ((first | refine' Line.cons rfl (.run rfl rfl ?_) ?_ | refine' Line.cons rfl (.yes rfl rfl rfl rfl ?_) ?_)
               any_goals (first | exact cMove rfl rfl | exact cAssign rfl rfl | exact cNot rfl rfl | exact cFldL83 rfl (.t rfl) | exact cRowOf83 rfl (.t rfl) | exact cLenH rfl (.l rfl hs3) (Ty.sl_isSl _ _ _) Try.underlying50 | exact cQuoI (n := 3) (r := p) rfl rfl rfl (by decide) hp.symm (by omega) | exact OpOk.b (c := true) (cLss rfl rfl rfl) (decide_eq_true (by omega)) | exact cCall1 rfl rfl hG | exact cPickT rfl rfl rfl | exact cPickF rfl rfl rfl | exact cLss rfl rfl rfl | exact cLeq rfl rfl rfl | exact cGtr rfl rfl rfl | exact cGeq rfl rfl rfl | exact cEql rfl rfl rfl | exact cNeq rfl rfl rfl | exact cExtract rfl rfl rfl)
               rotate_left))
      intro a w4 hF hb hN
      have hBs := hB.size
      replace hB := hB.trans (hb.mono hB.size)
      dsimp only [ext, Option.getD] at hF
      repeat (first | with_reducible refine wp_seq ?_ | with_reducible refine nThen ?_ | with_reducible refine nBlk ?_ | with_reducible refine wp_skip ?_ | with_reducible refine wp_block ?_ | with_reducible refine wp_exit ?_ | with_reducible refine xThen ?_ | with_reducible refine xHere ?_ | with_reducible refine xFar (by decide) ?_ | with_reducible refine wp_ret ?_ | with_reducible refine rThen ?_ | with_reducible refine rBlk ?_)
      refine cond_f hF rfl ?_
      repeat (first | with_reducible refine wp_seq ?_ | with_reducible refine nThen ?_ | with_reducible refine nBlk ?_ | with_reducible refine wp_skip ?_ | with_reducible refine wp_block ?_ | with_reducible refine wp_exit ?_ | with_reducible refine xThen ?_ | with_reducible refine xHere ?_ | with_reducible refine xFar (by decide) ?_ | with_reducible refine wp_ret ?_ | with_reducible refine rThen ?_ | with_reducible refine rBlk ?_)
      refine' reg_all hF ?_ mixed (by kernel_rfl) ?_
      rotate_left
      · repeat (first
            | exact Line.nil
            | (refine' Line.cons rfl (.no rfl rfl rfl rfl rfl rfl) ?_; rotate_left)
            | ((first | refine' Line.cons rfl (.run rfl rfl ?_) ?_ | refine' Line.cons rfl (.yes rfl rfl rfl rfl ?_) ?_)
               any_goals (first | exact cMove rfl rfl | exact cAssign rfl rfl | exact cNot rfl rfl | exact cPickT rfl rfl rfl | exact cPickF rfl rfl rfl | exact cLss rfl rfl rfl | exact cLeq rfl rfl rfl | exact cGtr rfl rfl rfl | exact cGeq rfl rfl rfl | exact cEql rfl rfl rfl | exact cNeq rfl rfl rfl | exact cExtract rfl rfl rfl)
               rotate_left))
      intro a w5 hF hb hN
      have hBs := hB.size
      replace hB := hB.trans (hb.mono hB.size)
      dsimp only [ext, Option.getD] at hF
      repeat (first | with_reducible refine wp_seq ?_ | with_reducible refine nThen ?_ | with_reducible refine nBlk ?_ | with_reducible refine wp_skip ?_ | with_reducible refine wp_block ?_ | with_reducible refine wp_exit ?_ | with_reducible refine xThen ?_ | with_reducible refine xHere ?_ | with_reducible refine xFar (by decide) ?_ | with_reducible refine wp_ret ?_ | with_reducible refine rThen ?_ | with_reducible refine rBlk ?_)
      refine ret1 hF rfl rfl fun z hz => ?_
      exact ⟨z, rfl, hz, hB⟩
    · refine' reg_all hF ?_ mixed (by kernel_rfl) ?_
      rotate_left
      · repeat (first
            | exact Line.nil
            | (refine' Line.cons rfl (.no rfl rfl rfl rfl rfl rfl) ?_; rotate_left)
            | ((first | refine' Line.cons rfl (.run rfl rfl ?_) ?_ | refine' Line.cons rfl (.yes rfl rfl rfl rfl ?_) ?_)
               any_goals (first | exact cMove rfl rfl | exact cAssign rfl rfl | exact cNot rfl rfl | exact cFldL83 rfl (.t rfl) | exact cRowOf83 rfl (.t rfl) | exact cLenH rfl (.l rfl hs3) (Ty.sl_isSl _ _ _) Try.underlying50 | exact cQuoI (n := 3) (r := p) rfl rfl rfl (by decide) hp.symm (by omega) | exact OpOk.b (c := false) (cLss rfl rfl rfl) (decide_eq_false (by omega)) | exact cCall1 rfl rfl hG | exact cPickT rfl rfl rfl | exact cPickF rfl rfl rfl | exact cLss rfl rfl rfl | exact cLeq rfl rfl rfl | exact cGtr rfl rfl rfl | exact cGeq rfl rfl rfl | exact cEql rfl rfl rfl | exact cNeq rfl rfl rfl | exact cExtract rfl rfl rfl)
               rotate_left))
      intro a w4 hF hb hN
      have hBs := hB.size
      replace hB := hB.trans (hb.mono hB.size)
      dsimp only [ext, Option.getD] at hF
      repeat (first | with_reducible refine wp_seq ?_ | with_reducible refine nThen ?_ | with_reducible refine nBlk ?_ | with_reducible refine wp_skip ?_ | with_reducible refine wp_block ?_ | with_reducible refine wp_exit ?_ | with_reducible refine xThen ?_ | with_reducible refine xHere ?_ | with_reducible refine xFar (by decide) ?_ | with_reducible refine wp_ret ?_ | with_reducible refine rThen ?_ | with_reducible refine rBlk ?_)
      refine cond_f hF rfl ?_
      repeat (first | with_reducible refine wp_seq ?_ | with_reducible refine nThen ?_ | with_reducible refine nBlk ?_ | with_reducible refine wp_skip ?_ | with_reducible refine wp_block ?_ | with_reducible refine wp_exit ?_ | with_reducible refine xThen ?_ | with_reducible refine xHere ?_ | with_reducible refine xFar (by decide) ?_ | with_reducible refine wp_ret ?_ | with_reducible refine rThen ?_ | with_reducible refine rBlk ?_)
      refine' reg_all hF ?_ mixed (by kernel_rfl) ?_
      rotate_left
      · repeat (first
            | exact Line.nil
            | (refine' Line.cons rfl (.no rfl rfl rfl rfl rfl rfl) ?_; rotate_left)
            | ((first | refine' Line.cons rfl (.run rfl rfl ?_) ?_ | refine' Line.cons rfl (.yes rfl rfl rfl rfl ?_) ?_)
               any_goals (first | exact cMove rfl rfl | exact cAssign rfl rfl | exact cNot rfl rfl | exact cPickT rfl rfl rfl | exact cPickF rfl rfl rfl | exact cLss rfl rfl rfl | exact cLeq rfl rfl rfl | exact cGtr rfl rfl rfl | exact cGeq rfl rfl rfl | exact cEql rfl rfl rfl | exact cNeq rfl rfl rfl | exact cExtract rfl rfl rfl)
               rotate_left))
      intro a w5 hF hb hN
      have hBs := hB.size
      replace hB := hB.trans (hb.mono hB.size)
      dsimp only [ext, Option.getD] at hF
      repeat (first | with_reducible refine wp_seq ?_ | with_reducible refine nThen ?_ | with_reducible refine nBlk ?_ | with_reducible refine wp_skip ?_ | with_reducible refine wp_block ?_ | with_reducible refine wp_exit ?_ | with_reducible refine xThen ?_ | with_reducible refine xHere ?_ | with_reducible refine xFar (by decide) ?_ | with_reducible refine wp_ret ?_ | with_reducible refine rThen ?_ | with_reducible refine rBlk ?_)
      refine ret1 hF rfl rfl fun z hz => ?_
      exact ⟨z, rfl, hz, hB⟩
  rw [hgn] at hG ⊢
  have hcnt : tcount L = (L.take p).foldl (fun n c => wrap64 (n + c.n)) 0 := by unfold tcount; rw [hp]
  rw [if_pos rfl, hcnt]
  refine enter_ty 28 [Ty.ex (.agg #[.int .u64 (seed : Int), s])] Try.func46 rfl (by kernel_rfl) ⟨rfl, trivial⟩ fun a hF => ?_
  have hB := Below.refl w.heap.size w
  repeat (first | with_reducible refine wp_seq ?_ | with_reducible refine nThen ?_ | with_reducible refine nBlk ?_ | with_reducible refine wp_skip ?_ | with_reducible refine wp_block ?_ | with_reducible refine wp_exit ?_ | with_reducible refine xThen ?_ | with_reducible refine xHere ?_ | with_reducible refine xFar (by decide) ?_ | with_reducible refine wp_ret ?_ | with_reducible refine rThen ?_ | with_reducible refine rBlk ?_)
  refine' reg_all hF ?_ mixed (by kernel_rfl) ?_
  rotate_left
  · repeat (first
        | exact Line.nil
        | (refine' Line.cons rfl (.no rfl rfl rfl rfl rfl rfl) ?_; rotate_left)
        | ((first | refine' Line.cons rfl (.run rfl rfl ?_) ?_ | refine' Line.cons rfl (.yes rfl rfl rfl rfl ?_) ?_)
           any_goals (first | exact cMove rfl rfl | exact cAssign rfl rfl | exact cNot rfl rfl | exact cBoxTab rfl rfl | exact cPickT rfl rfl rfl | exact cPickF rfl rfl rfl | exact cLss rfl rfl rfl | exact cLeq rfl rfl rfl | exact cGtr rfl rfl rfl | exact cGeq rfl rfl rfl | exact cEql rfl rfl rfl | exact cNeq rfl rfl rfl | exact cExtract rfl rfl rfl)
           rotate_left))
  intro a w1 hF hb hN
  have hBs := hB.size
  replace hB := hB.trans (hb.mono hB.size)
  dsimp only [ext, Option.getD] at hF
  repeat (first | with_reducible refine wp_seq ?_ | with_reducible refine nThen ?_ | with_reducible refine nBlk ?_ | with_reducible refine wp_skip ?_ | with_reducible refine wp_block ?_ | with_reducible refine wp_exit ?_ | with_reducible refine xThen ?_ | with_reducible refine xHere ?_ | with_reducible refine xFar (by decide) ?_ | with_reducible refine wp_ret ?_ | with_reducible refine rThen ?_ | with_reducible refine rBlk ?_)
  refine' reg_all hF ?_ mixed (by kernel_rfl) ?_
  rotate_left
  · repeat (first
        | exact Line.nil
        | (refine' Line.cons rfl (.no rfl rfl rfl rfl rfl rfl) ?_; rotate_left)
        | ((first | refine' Line.cons rfl (.run rfl rfl ?_) ?_ | refine' Line.cons rfl (.yes rfl rfl rfl rfl ?_) ?_)
           any_goals (first | exact cMove rfl rfl | exact cAssign rfl rfl | exact cNot rfl rfl | exact cPickT rfl rfl rfl | exact cPickF rfl rfl rfl | exact cLss rfl rfl rfl | exact cLeq rfl rfl rfl | exact cGtr rfl rfl rfl | exact cGeq rfl rfl rfl | exact cEql rfl rfl rfl | exact cNeq rfl rfl rfl | exact cExtract rfl rfl rfl)
           rotate_left))
  intro a w2 hF hb hN
  have hBs := hB.size
  replace hB := hB.trans (hb.mono hB.size)
  dsimp only [ext, Option.getD] at hF
  repeat (first | with_reducible refine wp_seq ?_ | with_reducible refine nThen ?_ | with_reducible refine nBlk ?_ | with_reducible refine wp_skip ?_ | with_reducible refine wp_block ?_ | with_reducible refine wp_exit ?_ | with_reducible refine xThen ?_ | with_reducible refine xHere ?_ | with_reducible refine xFar (by decide) ?_ | with_reducible refine wp_ret ?_ | with_reducible refine rThen ?_ | with_reducible refine rBlk ?_)
  refine' reg_all hF ?_ mixed (by kernel_rfl) ?_
  rotate_left
  · repeat (first
        | exact Line.nil
        | (refine' Line.cons rfl (.no rfl rfl rfl rfl rfl rfl) ?_; rotate_left)
        | ((first | refine' Line.cons rfl (.run rfl rfl ?_) ?_ | refine' Line.cons rfl (.yes rfl rfl rfl rfl ?_) ?_)
           any_goals (first | exact cMove rfl rfl | exact cAssign rfl rfl | exact cNot rfl rfl | exact cPickT rfl rfl rfl | exact cPickF rfl rfl rfl | exact cLss rfl rfl rfl | exact cLeq rfl rfl rfl | exact cGtr rfl rfl rfl | exact cGeq rfl rfl rfl | exact cEql rfl rfl rfl | exact cNeq rfl rfl rfl | exact cExtract rfl rfl rfl)
           rotate_left))
  intro a w3 hF hb hN
  have hBs := hB.size
  replace hB := hB.trans (hb.mono hB.size)
  dsimp only [ext, Option.getD] at hF
  repeat (first | with_reducible refine wp_seq ?_ | with_reducible refine nThen ?_ | with_reducible refine nBlk ?_ | with_reducible refine wp_skip ?_ | with_reducible refine wp_block ?_ | with_reducible refine wp_exit ?_ | with_reducible refine xThen ?_ | with_reducible refine xHere ?_ | with_reducible refine xFar (by decide) ?_ | with_reducible refine wp_ret ?_ | with_reducible refine rThen ?_ | with_reducible refine rBlk ?_)
  refine loop_ty (fun m a wr => ∃ j : Nat, j + m = p ∧ Fr 28 [(1, Ty.at_ 52 [.int .u64 (seed : Int), s]), (3, Ty.ex (.int .i64 ((L.take j).foldl (fun n c => wrap64 (n + c.n)) 0))), (4, Ty.ex (.int .i64 (j : Int)))] a wr ∧ Below w.heap.size w wr) p ?_ ?_
  · exact ⟨0, by omega, hF.keep [1, 3, 4], hB⟩
  clear hF hB
  rintro m a wr ⟨j, hj, hF, hB⟩
  have hs3 := TL.below hs hB
  repeat (first | with_reducible refine wp_seq ?_ | with_reducible refine nThen ?_ | with_reducible refine nBlk ?_ | with_reducible refine wp_skip ?_ | with_reducible refine wp_block ?_ | with_reducible refine wp_exit ?_ | with_reducible refine xThen ?_ | with_reducible refine xHere ?_ | with_reducible refine xFar (by decide) ?_ | with_reducible refine wp_ret ?_ | with_reducible refine rThen ?_ | with_reducible refine rBlk ?_)
  by_cases hlt : j < p
  rotate_left
  · obtain rfl : j = p := by omega
    refine' reg_all hF ?_ mixed (by kernel_rfl) ?_
    rotate_left
    · repeat (first
          | exact Line.nil
          | (refine' Line.cons rfl (.no rfl rfl rfl rfl rfl rfl) ?_; rotate_left)
          | ((first | refine' Line.cons rfl (.run rfl rfl ?_) ?_ | refine' Line.cons rfl (.yes rfl rfl rfl rfl ?_) ?_)
             any_goals (first | exact cMove rfl rfl | exact cAssign rfl rfl | exact cNot rfl rfl | exact cFldL83 rfl (.t rfl) | exact cRowOf83 rfl (.t rfl) | exact cLenH rfl (.l rfl hs3) (Ty.sl_isSl _ _ _) Try.underlying50 | exact cQuoI (n := 3) (r := j) rfl rfl rfl (by decide) hp.symm (by omega) | exact OpOk.b (c := false) (cLss rfl rfl rfl) (decide_eq_false (by omega)) | exact cCall1 rfl rfl hG | exact cPickT rfl rfl rfl | exact cPickF rfl rfl rfl | exact cLss rfl rfl rfl | exact cLeq rfl rfl rfl | exact cGtr rfl rfl rfl | exact cGeq rfl rfl rfl | exact cEql rfl rfl rfl | exact cNeq rfl rfl rfl | exact cExtract rfl rfl rfl)
             rotate_left))
    intro a w4 hF hb hN
    have hBs := hB.size
    replace hB := hB.trans (hb.mono hB.size)
    dsimp only [ext, Option.getD] at hF
    repeat (first | with_reducible refine wp_seq ?_ | with_reducible refine nThen ?_ | with_reducible refine nBlk ?_ | with_reducible refine wp_skip ?_ | with_reducible refine wp_block ?_ | with_reducible refine wp_exit ?_ | with_reducible refine xThen ?_ | with_reducible refine xHere ?_ | with_reducible refine xFar (by decide) ?_ | with_reducible refine wp_ret ?_ | with_reducible refine rThen ?_ | with_reducible refine rBlk ?_)
    refine cond_f hF rfl ?_
    repeat (first | with_reducible refine wp_seq ?_ | with_reducible refine nThen ?_ | with_reducible refine nBlk ?_ | with_reducible refine wp_skip ?_ | with_reducible refine wp_block ?_ | with_reducible refine wp_exit ?_ | with_reducible refine xThen ?_ | with_reducible refine xHere ?_ | with_reducible refine xFar (by decide) ?_ | with_reducible refine wp_ret ?_ | with_reducible refine rThen ?_ | with_reducible refine rBlk ?_)
    refine' reg_all hF ?_ mixed (by kernel_rfl) ?_
    rotate_left
    · repeat (first
          | exact Line.nil
          | (refine' Line.cons rfl (.no rfl rfl rfl rfl rfl rfl) ?_; rotate_left)
          | ((first | refine' Line.cons rfl (.run rfl rfl ?_) ?_ | refine' Line.cons rfl (.yes rfl rfl rfl rfl ?_) ?_)
             any_goals (first | exact cMove rfl rfl | exact cAssign rfl rfl | exact cNot rfl rfl | exact cPickT rfl rfl rfl | exact cPickF rfl rfl rfl | exact cLss rfl rfl rfl | exact cLeq rfl rfl rfl | exact cGtr rfl rfl rfl | exact cGeq rfl rfl rfl | exact cEql rfl rfl rfl | exact cNeq rfl rfl rfl | exact cExtract rfl rfl rfl)
             rotate_left))
    intro a w5 hF hb hN
    have hBs := hB.size
    replace hB := hB.trans (hb.mono hB.size)
    dsimp only [ext, Option.getD] at hF
    repeat (first | with_reducible refine wp_seq ?_ | with_reducible refine nThen ?_ | with_reducible refine nBlk ?_ | with_reducible refine wp_skip ?_ | with_reducible refine wp_block ?_ | with_reducible refine wp_exit ?_ | with_reducible refine xThen ?_ | with_reducible refine xHere ?_ | with_reducible refine xFar (by decide) ?_ | with_reducible refine wp_ret ?_ | with_reducible refine rThen ?_ | with_reducible refine rBlk ?_)
    refine ret1 hF rfl rfl fun z hz => ?_
    exact ⟨z, rfl, hz, hB⟩
  have hnx := cnt_snoc L (j := j) (by omega) 0
  generalize (L.take j).foldl (fun n c => wrap64 (n + c.n)) 0 = acc at *
  refine' reg_all hF ?_ mixed (by kernel_rfl) ?_
  rotate_left
  · repeat (first
        | exact Line.nil
        | (refine' Line.cons rfl (.no rfl rfl rfl rfl rfl rfl) ?_; rotate_left)
        | ((first | refine' Line.cons rfl (.run rfl rfl ?_) ?_ | refine' Line.cons rfl (.yes rfl rfl rfl rfl ?_) ?_)
           any_goals (first | exact cMove rfl rfl | exact cAssign rfl rfl | exact cNot rfl rfl | exact cFldL83 rfl (.t rfl) | exact cRowOf83 rfl (.t rfl) | exact cLenH rfl (.l rfl hs3) (Ty.sl_isSl _ _ _) Try.underlying50 | exact cQuoI (n := 3) (r := p) rfl rfl rfl (by decide) hp.symm (by omega) | exact OpOk.b (c := true) (cLss rfl rfl rfl) (decide_eq_true (by omega)) | exact cCall1 rfl rfl hG | exact cPickT rfl rfl rfl | exact cPickF rfl rfl rfl | exact cLss rfl rfl rfl | exact cLeq rfl rfl rfl | exact cGtr rfl rfl rfl | exact cGeq rfl rfl rfl | exact cEql rfl rfl rfl | exact cNeq rfl rfl rfl | exact cExtract rfl rfl rfl)
           rotate_left))
  intro a w4 hF hb hN
  have hBs := hB.size
  replace hB := hB.trans (hb.mono hB.size)
  dsimp only [ext, Option.getD] at hF
  repeat (first | with_reducible refine wp_seq ?_ | with_reducible refine nThen ?_ | with_reducible refine nBlk ?_ | with_reducible refine wp_skip ?_ | with_reducible refine wp_block ?_ | with_reducible refine wp_exit ?_ | with_reducible refine xThen ?_ | with_reducible refine xHere ?_ | with_reducible refine xFar (by decide) ?_ | with_reducible refine wp_ret ?_ | with_reducible refine rThen ?_ | with_reducible refine rBlk ?_)
  refine cond_t hF rfl ?_
  have hs4 := TL.below hs hB
  repeat (first | with_reducible refine wp_seq ?_ | with_reducible refine nThen ?_ | with_reducible refine nBlk ?_ | with_reducible refine wp_skip ?_ | with_reducible refine wp_block ?_ | with_reducible refine wp_exit ?_ | with_reducible refine xThen ?_ | with_reducible refine xHere ?_ | with_reducible refine xFar (by decide) ?_ | with_reducible refine wp_ret ?_ | with_reducible refine rThen ?_ | with_reducible refine rBlk ?_)
  refine' reg_all hF ?_ mixed (by kernel_rfl) ?_
  rotate_left
  · repeat (first
        | exact Line.nil
        | (refine' Line.cons rfl (.no rfl rfl rfl rfl rfl rfl) ?_; rotate_left)
        | ((first | refine' Line.cons rfl (.run rfl rfl ?_) ?_ | refine' Line.cons rfl (.yes rfl rfl rfl rfl ?_) ?_)
           any_goals (first | exact cMove rfl rfl | exact cAssign rfl rfl | exact cNot rfl rfl | exact cFldL83 rfl (.t rfl) | exact cRowOf83 rfl (.t rfl) | exact cIndexCl (k := j) rfl (.l rfl hs4) rfl Try.underlying50 info49 (by omega) | exact cFldN49 (c := L.getD j default) rfl (.t rfl) | exact cLoadN rfl (.t rfl) | exact OpOk.v (cAddW rfl rfl rfl) (congrArg (Value.int .i64) (wrap_is _)) | exact cPickT rfl rfl rfl | exact cPickF rfl rfl rfl | exact cLss rfl rfl rfl | exact cLeq rfl rfl rfl | exact cGtr rfl rfl rfl | exact cGeq rfl rfl rfl | exact cEql rfl rfl rfl | exact cNeq rfl rfl rfl | exact cExtract rfl rfl rfl)
           rotate_left))
  intro a w5 hF hb hN
  have hBs := hB.size
  replace hB := hB.trans (hb.mono hB.size)
  dsimp only [ext, Option.getD] at hF
  repeat (first | with_reducible refine wp_seq ?_ | with_reducible refine nThen ?_ | with_reducible refine nBlk ?_ | with_reducible refine wp_skip ?_ | with_reducible refine wp_block ?_ | with_reducible refine wp_exit ?_ | with_reducible refine xThen ?_ | with_reducible refine xHere ?_ | with_reducible refine xFar (by decide) ?_ | with_reducible refine wp_ret ?_ | with_reducible refine rThen ?_ | with_reducible refine rBlk ?_)
  refine' reg_all hF ?_ mixed (by kernel_rfl) ?_
  rotate_left
  · repeat (first
        | exact Line.nil
        | (refine' Line.cons rfl (.no rfl rfl rfl rfl rfl rfl) ?_; rotate_left)
        | ((first | refine' Line.cons rfl (.run rfl rfl ?_) ?_ | refine' Line.cons rfl (.yes rfl rfl rfl rfl ?_) ?_)
           any_goals (first | exact cMove rfl rfl | exact cAssign rfl rfl | exact cNot rfl rfl | exact cAdd (r := ((j + 1 : Nat) : Int)) rfl rfl rfl (by omega) | exact cPickT rfl rfl rfl | exact cPickF rfl rfl rfl | exact cLss rfl rfl rfl | exact cLeq rfl rfl rfl | exact cGtr rfl rfl rfl | exact cGeq rfl rfl rfl | exact cEql rfl rfl rfl | exact cNeq rfl rfl rfl | exact cExtract rfl rfl rfl)
           rotate_left))
  intro a w6 hF hb hN
  have hBs := hB.size
  replace hB := hB.trans (hb.mono hB.size)
  dsimp only [ext, Option.getD] at hF
  repeat (first | with_reducible refine wp_seq ?_ | with_reducible refine nThen ?_ | with_reducible refine nBlk ?_ | with_reducible refine wp_skip ?_ | with_reducible refine wp_block ?_ | with_reducible refine wp_exit ?_ | with_reducible refine xThen ?_ | with_reducible refine xHere ?_ | with_reducible refine xFar (by decide) ?_ | with_reducible refine wp_ret ?_ | with_reducible refine rThen ?_ | with_reducible refine rBlk ?_)
  refine ⟨m - 1, by omega, j + 1, by omega, ?_, hB⟩
  rw [hnx]
  exact hF.keep [1, 3, 4]
end Go.Proofs.Ytmlbkcpmgcjblaa

/- Layer 15 by types: the document's TableOf. -/
namespace Go.Proofs.Ytmlbkcpmgcjblaa
open Go.RowKit

section
variable {P : Program} {ops : Array Oper} {Q : Exit → Act → World → Prop} {N : Nat} {Γ : Ctx} {a : Act} {w : World} {o1 o2 : Oper} {rest : List Oper}
/-- A variable made, and a table of one's own stored there. -/
theorem tlNewTabS {T e : TypeId} {p q : Nat} {seed : Nat} {L : List Cl} {w1 : World} (hF : Fr N Γ a w) (h1 : o1.op = .alloc T) (hg1 : o1.guard = none) (hd1 : o1.dst = some p) (hp : p < N) (hpq : Nat.beq p q = false)
    (hz : ∀ w : World, (Instr.alloc T true (.tuple #[])).run P w = .ok (.pointer (some ⟨w.heap.size, 0, none⟩)) (w.alloc (.cells #[.int .u64 0, .slice none 0 0] T)))
    (h2 : o2.op = .store T (.tmp p) (.tmp q)) (hg2 : o2.guard = none) (hd2 : o2.dst = none) (hq : look Γ q = some (Ty.tabO w1 e seed L)) (hi : (P.info? T).map (·.size) = some 2)
    (hk : ∀ a' w' s, Fr N ((p, Ty.ex (.pointer (some ⟨w.heap.size, 0, none⟩))) :: Γ) a' w' → Below w.heap.size w w' → Blk w' w.heap.size T #[.int .u64 (seed : Int), s] → (Ty.seg w1 e 65 L.length (flatC L)).p w' s → wpList P ops Q rest a' w') : wpList P ops Q (o1 :: o2 :: rest) a w := by
  obtain ⟨v, hv2, hFo⟩ := hF.open hq
  obtain ⟨s, rfl, hs⟩ := hv2
  refine wpList_plain hg1 fun K hK => ?_
  unfold Oper.wp execOp
  simp only [h1, Sem.run_bind, hz, Result.andThen_ok, Sem.run_pure]
  refine hK _ _ ?_
  rw [hd1]
  have hb1 : Below w.heap.size w (w.alloc (.cells #[.int .u64 0, .slice none 0 0] T)) := ((Keeps.refl [] w).alloc _).below
  have hF1 : Fr N ((p, Ty.ex (.pointer (some ⟨w.heap.size, 0, none⟩))) :: (q, Ty.ex (.agg #[.int .u64 (seed : Int), s])) :: Γ) (a.put (some p) (.pointer (some ⟨w.heap.size, 0, none⟩))) (w.alloc (.cells #[.int .u64 0, .slice none 0 0] T)) := hFo.put hp hb1 rfl
  have hv3 := hF1.getEx (s := q) (v := .agg #[.int .u64 (seed : Int), s]) (by rw [look]; simp only [hpq, cond_false]; exact look_same _ _ _)
  refine tlStoreV (Δ := []) hF1 hg2 hd2 h2 (look_same _ _ _) hv3 (Blk.new w _ _) rfl (by rw [hi]; rfl) (sl_one (seg_sl _ _ hs) _) (hF1.keep []) rfl ?_
  intro w' _ hb' hkx
  have hB := below_own hb1 hkx (by intro y hy; simp only [List.mem_singleton] at hy; omega)
  exact hk _ _ s (hF.put hp hB rfl) hB (by simpa [Value.cells] using hb') ((Ty.seg w1 e 65 L.length (flatC L)).below hs hB)
end
theorem blkne {w : World} {g g' : Nat} {t : TypeId} {c : Array Value} {n : Nat} (_ : Blk w g t c) (h1 : g < n) (h2 : n ≤ g') : g ∉ [g'] := by
  simp only [List.mem_singleton]
  omega
set_option maxRecDepth 100000 in
set_option maxHeartbeats 4000000 in
theorem rtof_ty (seed : Nat) (n : Int) (D : List Sm) (hD : D.length ≤ 1000000) (hsd : seed < 18446744073709551616) : FnR3 Try.prog 41 (Ty.ex (.int .u64 (seed : Int))) (Ty.ex (.int .i64 n)) (Ty.sums 61 D) (fun w => Ty.tabE w 105 (newS seed n) (ofL seed n D) (newE n)) := by
  refine ⟨fun args w => by kernel_rfl, fun w v u q hv hu hq => ?_⟩
  have nw := rnew_ty seed n
  have hro := r10of_ty D hD
  have hXl := setL_len D
  have eO : ofL seed n D = if goodN n then tall seed (tzero n.toNat) (setL D) 1 else [] := rfl
  rw [eO]
  clear eO
  generalize setL D = X at *
  refine enter_ty 37 [Ty.ex (.int .u64 (seed : Int)), Ty.ex (.int .i64 n), Ty.ex q] Try.func41 rfl (by kernel_rfl) ⟨hv, hu, rfl, trivial⟩ fun a hF => ?_
  have hB := Below.refl w.heap.size w
  let TD := Ty.sums 61 D
  repeat (first | with_reducible refine wp_seq ?_ | with_reducible refine nThen ?_ | with_reducible refine nBlk ?_ | with_reducible refine wp_skip ?_ | with_reducible refine wp_block ?_ | with_reducible refine wp_exit ?_ | with_reducible refine xThen ?_ | with_reducible refine xHere ?_ | with_reducible refine xFar (by decide) ?_ | with_reducible refine wp_ret ?_ | with_reducible refine rThen ?_ | with_reducible refine rBlk ?_)
  refine' reg_all hF ?_ mixed (by kernel_rfl) ?_
  rotate_left
  · repeat (first
        | exact Line.nil
        | (refine' Line.cons rfl (.no rfl rfl rfl rfl rfl rfl) ?_; rotate_left)
        | (refine' Line.cons rfl (.new rfl rfl (run_alloc_i infoT83) rfl) ?_; rotate_left)
        | ((first | refine' Line.cons rfl (.run rfl rfl ?_) ?_ | refine' Line.cons rfl (.yes rfl rfl rfl rfl ?_) ?_)
           any_goals (first | exact cMove rfl rfl | exact cAssign rfl rfl | exact cNot rfl rfl | exact cPickT rfl rfl rfl | exact cPickF rfl rfl rfl | exact cLss rfl rfl rfl | exact cLeq rfl rfl rfl | exact cGtr rfl rfl rfl | exact cGeq rfl rfl rfl | exact cEql rfl rfl rfl | exact cNeq rfl rfl rfl | exact cExtract rfl rfl rfl)
           rotate_left))
  intro a w1 hF hb hN
  have hBs := hB.size
  replace hB := hB.trans (hb.mono hB.size)
  dsimp only [ext, Option.getD] at hF
  repeat (first | with_reducible refine wp_seq ?_ | with_reducible refine nThen ?_ | with_reducible refine nBlk ?_ | with_reducible refine wp_skip ?_ | with_reducible refine wp_block ?_ | with_reducible refine wp_exit ?_ | with_reducible refine xThen ?_ | with_reducible refine xHere ?_ | with_reducible refine xFar (by decide) ?_ | with_reducible refine wp_ret ?_ | with_reducible refine rThen ?_ | with_reducible refine rBlk ?_)
  obtain ⟨z, ⟨g6, rfl, hg6, hb6⟩, hF⟩ := hF.open (s := 6) rfl
  have hg6 : w.heap.size ≤ g6 := hg6
  have hlt6 := hb6.lt
  have hB1 := hB
  replace hB := Below.refl w1.heap.size w1
  repeat (first | with_reducible refine wp_seq ?_ | with_reducible refine nThen ?_ | with_reducible refine nBlk ?_ | with_reducible refine wp_skip ?_ | with_reducible refine wp_block ?_ | with_reducible refine wp_exit ?_ | with_reducible refine xThen ?_ | with_reducible refine xHere ?_ | with_reducible refine xFar (by decide) ?_ | with_reducible refine wp_ret ?_ | with_reducible refine rThen ?_ | with_reducible refine rBlk ?_)
  refine wp_region_lit ?_
  refine' tlOp hF rfl rfl rfl ?_ ?_
  rotate_left
  · first | exact cMove rfl rfl | exact cAssign rfl rfl | exact cPickT rfl rfl rfl | exact cPickF rfl rfl rfl | exact cNot rfl rfl | exact cLss rfl rfl rfl | exact cLeq rfl rfl rfl | exact cGtr rfl rfl rfl | exact cGeq rfl rfl rfl | exact cEql rfl rfl rfl | exact cNeq rfl rfl rfl | exact cExtract rfl rfl rfl
  intro a w2 hF hb
  have hBs := hB.size
  replace hB := hB.trans (hb.mono hB.size)
  try (refine wpList_nil ?_)
  repeat (first | with_reducible refine wp_seq ?_ | with_reducible refine nThen ?_ | with_reducible refine nBlk ?_ | with_reducible refine wp_skip ?_ | with_reducible refine wp_block ?_ | with_reducible refine wp_exit ?_ | with_reducible refine xThen ?_ | with_reducible refine xHere ?_ | with_reducible refine xFar (by decide) ?_ | with_reducible refine wp_ret ?_ | with_reducible refine rThen ?_ | with_reducible refine rBlk ?_)
  refine' tlOp hF rfl rfl rfl ?_ ?_
  rotate_left
  · first | exact cMove rfl rfl | exact cAssign rfl rfl | exact cPickT rfl rfl rfl | exact cPickF rfl rfl rfl | exact cNot rfl rfl | exact cLss rfl rfl rfl | exact cLeq rfl rfl rfl | exact cGtr rfl rfl rfl | exact cGeq rfl rfl rfl | exact cEql rfl rfl rfl | exact cNeq rfl rfl rfl | exact cExtract rfl rfl rfl
  intro a w3 hF hb
  have hBs := hB.size
  replace hB := hB.trans (hb.mono hB.size)
  try (refine wpList_nil ?_)
  repeat (first | with_reducible refine wp_seq ?_ | with_reducible refine nThen ?_ | with_reducible refine nBlk ?_ | with_reducible refine wp_skip ?_ | with_reducible refine wp_block ?_ | with_reducible refine wp_exit ?_ | with_reducible refine xThen ?_ | with_reducible refine xHere ?_ | with_reducible refine xFar (by decide) ?_ | with_reducible refine wp_ret ?_ | with_reducible refine rThen ?_ | with_reducible refine rBlk ?_)
  have hw3 := hB.size
  refine' tlOp hF rfl rfl rfl ?_ ?_
  rotate_left
  · first | exact cCallR2 rfl (.t rfl) (.t rfl) nw (tabE_olds _ _ _ _) | exact cMove rfl rfl | exact cAssign rfl rfl | exact cPickT rfl rfl rfl | exact cPickF rfl rfl rfl | exact cNot rfl rfl | exact cLss rfl rfl rfl | exact cLeq rfl rfl rfl | exact cGtr rfl rfl rfl | exact cGeq rfl rfl rfl | exact cEql rfl rfl rfl | exact cNeq rfl rfl rfl | exact cExtract rfl rfl rfl
  intro a w4 hF hb
  have hBs := hB.size
  replace hB := hB.trans (hb.mono hB.size)
  try (refine wpList_nil ?_)
  repeat (first | with_reducible refine wp_seq ?_ | with_reducible refine nThen ?_ | with_reducible refine nBlk ?_ | with_reducible refine wp_skip ?_ | with_reducible refine wp_block ?_ | with_reducible refine wp_exit ?_ | with_reducible refine xThen ?_ | with_reducible refine xHere ?_ | with_reducible refine xFar (by decide) ?_ | with_reducible refine wp_ret ?_ | with_reducible refine rThen ?_ | with_reducible refine rBlk ?_)
  refine' tlOp hF rfl rfl rfl ?_ ?_
  rotate_left
  · first | exact cMove rfl rfl | exact cAssign rfl rfl | exact cPickT rfl rfl rfl | exact cPickF rfl rfl rfl | exact cNot rfl rfl | exact cLss rfl rfl rfl | exact cLeq rfl rfl rfl | exact cGtr rfl rfl rfl | exact cGeq rfl rfl rfl | exact cEql rfl rfl rfl | exact cNeq rfl rfl rfl | exact cExtract rfl rfl rfl
  intro a w5 hF hb
  have hBs := hB.size
  replace hB := hB.trans (hb.mono hB.size)
  try (refine wpList_nil ?_)
  repeat (first | with_reducible refine wp_seq ?_ | with_reducible refine nThen ?_ | with_reducible refine nBlk ?_ | with_reducible refine wp_skip ?_ | with_reducible refine wp_block ?_ | with_reducible refine wp_exit ?_ | with_reducible refine xThen ?_ | with_reducible refine xHere ?_ | with_reducible refine xFar (by decide) ?_ | with_reducible refine wp_ret ?_ | with_reducible refine rThen ?_ | with_reducible refine rBlk ?_)
  refine' tlOp hF rfl rfl rfl ?_ ?_
  rotate_left
  · first | exact cExtT rfl rfl | exact cMove rfl rfl | exact cAssign rfl rfl | exact cPickT rfl rfl rfl | exact cPickF rfl rfl rfl | exact cNot rfl rfl | exact cLss rfl rfl rfl | exact cLeq rfl rfl rfl | exact cGtr rfl rfl rfl | exact cGeq rfl rfl rfl | exact cEql rfl rfl rfl | exact cNeq rfl rfl rfl | exact cExtract rfl rfl rfl
  intro a w6 hF hb
  have hBs := hB.size
  replace hB := hB.trans (hb.mono hB.size)
  try (refine wpList_nil ?_)
  repeat (first | with_reducible refine wp_seq ?_ | with_reducible refine nThen ?_ | with_reducible refine nBlk ?_ | with_reducible refine wp_skip ?_ | with_reducible refine wp_block ?_ | with_reducible refine wp_exit ?_ | with_reducible refine xThen ?_ | with_reducible refine xHere ?_ | with_reducible refine xFar (by decide) ?_ | with_reducible refine wp_ret ?_ | with_reducible refine rThen ?_ | with_reducible refine rBlk ?_)
  refine' tlOp hF rfl rfl rfl ?_ ?_
  rotate_left
  · first | exact cExtE rfl rfl | exact cMove rfl rfl | exact cAssign rfl rfl | exact cPickT rfl rfl rfl | exact cPickF rfl rfl rfl | exact cNot rfl rfl | exact cLss rfl rfl rfl | exact cLeq rfl rfl rfl | exact cGtr rfl rfl rfl | exact cGeq rfl rfl rfl | exact cEql rfl rfl rfl | exact cNeq rfl rfl rfl | exact cExtract rfl rfl rfl
  intro a w7 hF hb
  have hBs := hB.size
  replace hB := hB.trans (hb.mono hB.size)
  try (refine wpList_nil ?_)
  repeat (first | with_reducible refine wp_seq ?_ | with_reducible refine nThen ?_ | with_reducible refine nBlk ?_ | with_reducible refine wp_skip ?_ | with_reducible refine wp_block ?_ | with_reducible refine wp_exit ?_ | with_reducible refine xThen ?_ | with_reducible refine xHere ?_ | with_reducible refine xFar (by decide) ?_ | with_reducible refine wp_ret ?_ | with_reducible refine rThen ?_ | with_reducible refine rBlk ?_)
  have hw7 := hB.size
  have hw1 := hB1.size
  refine tlNewTabS hF rfl rfl rfl (by decide) rfl (run_alloc_i infoT83) rfl rfl rfl rfl sizeT83 fun a w8 s8 hF hb hb8 hs8 => ?_
  replace hB := hB.trans (hb.mono hB.size)
  have hg8 : g6 < w7.heap.size := by omega
  have hwg8 : w.heap.size ≤ w7.heap.size := by omega
  generalize w7.heap.size = g8 at *
  replace hb6 := hb6.below hB
  replace hB := hB1.trans (hB.mono hB1.size)
  refine' tlOp hF rfl rfl rfl ?_ ?_
  rotate_left
  · first | exact cMove rfl rfl | exact cAssign rfl rfl | exact cPickT rfl rfl rfl | exact cPickF rfl rfl rfl | exact cNot rfl rfl | exact cLss rfl rfl rfl | exact cLeq rfl rfl rfl | exact cGtr rfl rfl rfl | exact cGeq rfl rfl rfl | exact cEql rfl rfl rfl | exact cNeq rfl rfl rfl | exact cExtract rfl rfl rfl
  intro a w9 hF hb
  have hBs := hB.size
  replace hB := hB.trans (hb.mono hB.size)
  try (refine wpList_nil ?_)
  repeat (first | with_reducible refine wp_seq ?_ | with_reducible refine nThen ?_ | with_reducible refine nBlk ?_ | with_reducible refine wp_skip ?_ | with_reducible refine wp_block ?_ | with_reducible refine wp_exit ?_ | with_reducible refine xThen ?_ | with_reducible refine xHere ?_ | with_reducible refine xFar (by decide) ?_ | with_reducible refine wp_ret ?_ | with_reducible refine rThen ?_ | with_reducible refine rBlk ?_)
  replace hb6 := hb6.below hb
  replace hb8 := hb8.below hb
  replace hs8 := (Ty.seg w 105 65 _ _).below (seg_old (by omega) _ _ hs8) hb
  have hq2 := TD.below hq hB
  repeat (first | with_reducible refine wp_seq ?_ | with_reducible refine nThen ?_ | with_reducible refine nBlk ?_ | with_reducible refine wp_skip ?_ | with_reducible refine wp_block ?_ | with_reducible refine wp_exit ?_ | with_reducible refine xThen ?_ | with_reducible refine xHere ?_ | with_reducible refine xFar (by decide) ?_ | with_reducible refine wp_ret ?_ | with_reducible refine rThen ?_ | with_reducible refine rBlk ?_)
  refine' reg_all hF ?_ mixed (by kernel_rfl) ?_
  rotate_left
  · repeat (first
        | exact Line.nil
        | (refine' Line.cons rfl (.no rfl rfl rfl rfl rfl rfl) ?_; rotate_left)
        | ((first | refine' Line.cons rfl (.run rfl rfl ?_) ?_ | refine' Line.cons rfl (.yes rfl rfl rfl rfl ?_) ?_)
           any_goals (first | exact cMove rfl rfl | exact cAssign rfl rfl | exact cNot rfl rfl | exact cCallS1 rfl (.l rfl hq2) hro | exact cPickT rfl rfl rfl | exact cPickF rfl rfl rfl | exact cLss rfl rfl rfl | exact cLeq rfl rfl rfl | exact cGtr rfl rfl rfl | exact cGeq rfl rfl rfl | exact cEql rfl rfl rfl | exact cNeq rfl rfl rfl | exact cExtract rfl rfl rfl)
           rotate_left))
  intro a w10 hF hb hN
  have hBs := hB.size
  replace hB := hB.trans (hb.mono hB.size)
  dsimp only [ext, Option.getD] at hF
  repeat (first | with_reducible refine wp_seq ?_ | with_reducible refine nThen ?_ | with_reducible refine nBlk ?_ | with_reducible refine wp_skip ?_ | with_reducible refine wp_block ?_ | with_reducible refine wp_exit ?_ | with_reducible refine xThen ?_ | with_reducible refine xHere ?_ | with_reducible refine xFar (by decide) ?_ | with_reducible refine wp_ret ?_ | with_reducible refine rThen ?_ | with_reducible refine rBlk ?_)
  replace hb6 := hb6.below hb
  replace hb8 := hb8.below hb
  replace hs8 := (Ty.seg w 105 65 _ _).below hs8 hb
  refine' reg_all hF ?_ mixed (by kernel_rfl) ?_
  rotate_left
  · repeat (first
        | exact Line.nil
        | (refine' Line.cons rfl (.no rfl rfl rfl rfl rfl rfl) ?_; rotate_left)
        | ((first | refine' Line.cons rfl (.run rfl rfl ?_) ?_ | refine' Line.cons rfl (.yes rfl rfl rfl rfl ?_) ?_)
           any_goals (first | exact cMove rfl rfl | exact cAssign rfl rfl | exact cNot rfl rfl | exact cPickT rfl rfl rfl | exact cPickF rfl rfl rfl | exact cLss rfl rfl rfl | exact cLeq rfl rfl rfl | exact cGtr rfl rfl rfl | exact cGeq rfl rfl rfl | exact cEql rfl rfl rfl | exact cNeq rfl rfl rfl | exact cExtract rfl rfl rfl)
           rotate_left))
  intro a w11 hF hb hN
  have hBs := hB.size
  replace hB := hB.trans (hb.mono hB.size)
  dsimp only [ext, Option.getD] at hF
  repeat (first | with_reducible refine wp_seq ?_ | with_reducible refine nThen ?_ | with_reducible refine nBlk ?_ | with_reducible refine wp_skip ?_ | with_reducible refine wp_block ?_ | with_reducible refine wp_exit ?_ | with_reducible refine xThen ?_ | with_reducible refine xHere ?_ | with_reducible refine xFar (by decide) ?_ | with_reducible refine wp_ret ?_ | with_reducible refine rThen ?_ | with_reducible refine rBlk ?_)
  replace hb6 := hb6.below hb
  replace hb8 := hb8.below hb
  replace hs8 := (Ty.seg w 105 65 _ _).below hs8 hb
  have hn68 : g6 ∉ [g8] := blkne hb6 hg8 (Nat.le_refl _)
  have hn86 : ∀ y, y ∈ [g8] → w.heap.size ≤ y := by intro y hy; simp only [List.mem_singleton] at hy; omega
  have hn66 : ∀ y, y ∈ [g6] → w.heap.size ≤ y := by intro y hy; simp only [List.mem_singleton] at hy; omega
  clear hq2 hg8 hwg8 hw3 hw7 hw1 hB1 hlt6
  by_cases hgn : goodN n = true
  rotate_left
  · have hgn : goodN n = false := by simpa using hgn
    rw [show newE n = .int .i64 1 by unfold newE; rw [hgn]; rfl, hgn] 
    have e3 : newE n = .int .i64 1 := by unfold newE; rw [hgn]; rfl
    have e4 : newL n = [] := by unfold newL; rw [hgn]; rfl
    rw [e3] at hF
    rw [e4] at hs8
    rw [if_neg (by simp)]
    generalize newS seed n = sd at *
    refine loop_ty (fun m a wr => m = 0 ∧ Fr 37 [(2, Ty.sums 61 X), (6, Ty.ex (.pointer (some ⟨g6, 0, none⟩))), (8, Ty.ex (.pointer (some ⟨g8, 0, none⟩))), (9, Ty.ex (.int .i64 1)), (10, Ty.ex (.int .i64 0))] a wr ∧ Below w.heap.size w wr ∧ Blk wr g6 52 zeroT ∧ Blk wr g8 52 #[.int .u64 (sd : Int), s8] ∧ (Ty.seg w 105 65 ([] : List Cl).length (flatC [])).p wr s8) 0 ?_ ?_
    · exact ⟨rfl, hF.as (hF.keep [6, 8, 9, 10]) (s := 2) rfl (fun v hv => seg_sl _ _ hv), hB, hb6, hb8, hs8⟩
    clear hF hB hb6 hb8 hs8
    rintro m a wr ⟨hm, hF, hB, hb6, hb8, hs8⟩
    repeat (first | with_reducible refine wp_seq ?_ | with_reducible refine nThen ?_ | with_reducible refine nBlk ?_ | with_reducible refine wp_skip ?_ | with_reducible refine wp_block ?_ | with_reducible refine wp_exit ?_ | with_reducible refine xThen ?_ | with_reducible refine xHere ?_ | with_reducible refine xFar (by decide) ?_ | with_reducible refine wp_ret ?_ | with_reducible refine rThen ?_ | with_reducible refine rBlk ?_)
    refine wp_mono (Q := fun e a wr => e = .normal ∧ Fr 37 [(26, Ty.ex (.bool false)), (6, Ty.ex (.pointer (some ⟨g6, 0, none⟩))), (8, Ty.ex (.pointer (some ⟨g8, 0, none⟩))), (9, Ty.ex (.int .i64 1))] a wr ∧ Below w.heap.size w wr ∧ Blk wr g6 52 zeroT ∧ Blk wr g8 52 #[.int .u64 (sd : Int), s8] ∧ (Ty.seg w 105 65 ([] : List Cl).length (flatC [])).p wr s8) ?_ ?_
    · by_cases hX : 0 < X.length
      · refine' reg_all hF ?_ mixed (by kernel_rfl) ?_
        rotate_left
        · repeat (first
              | exact Line.nil
              | (refine' Line.cons rfl (.no rfl rfl rfl rfl rfl rfl) ?_; rotate_left)
              | ((first | refine' Line.cons rfl (.run rfl rfl ?_) ?_ | refine' Line.cons rfl (.yes rfl rfl rfl rfl ?_) ?_)
                 any_goals (first | exact cMove rfl rfl | exact cAssign rfl rfl | exact cNot rfl rfl | exact cLenH rfl (.t rfl) (Ty.sl_isSl _ _ _) Try.underlying58 | exact OpOk.b (c := true) (cLss rfl rfl rfl) (decide_eq_true (by omega)) | exact OpOk.b (c := false) (cEql rfl rfl rfl) rfl | exact cPickT rfl rfl rfl | exact cPickF rfl rfl rfl | exact cLss rfl rfl rfl | exact cLeq rfl rfl rfl | exact cGtr rfl rfl rfl | exact cGeq rfl rfl rfl | exact cEql rfl rfl rfl | exact cNeq rfl rfl rfl | exact cExtract rfl rfl rfl)
                 rotate_left))
        intro a w12 hF hb hN
        have hBs := hB.size
        replace hB := hB.trans (hb.mono hB.size)
        dsimp only [ext, Option.getD] at hF
        repeat (first | with_reducible refine wp_seq ?_ | with_reducible refine nThen ?_ | with_reducible refine nBlk ?_ | with_reducible refine wp_skip ?_ | with_reducible refine wp_block ?_ | with_reducible refine wp_exit ?_ | with_reducible refine xThen ?_ | with_reducible refine xHere ?_ | with_reducible refine xFar (by decide) ?_ | with_reducible refine wp_ret ?_ | with_reducible refine rThen ?_ | with_reducible refine rBlk ?_)
        exact ⟨rfl, hF.keep [26, 6, 8, 9], hB, hb6.below hb, hb8.below hb, (Ty.seg w 105 65 _ _).below hs8 hb⟩
      · refine' reg_all hF ?_ mixed (by kernel_rfl) ?_
        rotate_left
        · repeat (first
              | exact Line.nil
              | (refine' Line.cons rfl (.no rfl rfl rfl rfl rfl rfl) ?_; rotate_left)
              | ((first | refine' Line.cons rfl (.run rfl rfl ?_) ?_ | refine' Line.cons rfl (.yes rfl rfl rfl rfl ?_) ?_)
                 any_goals (first | exact cMove rfl rfl | exact cAssign rfl rfl | exact cNot rfl rfl | exact cLenH rfl (.t rfl) (Ty.sl_isSl _ _ _) Try.underlying58 | exact OpOk.b (c := false) (cLss rfl rfl rfl) (decide_eq_false (by omega)) | exact OpOk.b (c := false) (cEql rfl rfl rfl) rfl | exact cPickT rfl rfl rfl | exact cPickF rfl rfl rfl | exact cLss rfl rfl rfl | exact cLeq rfl rfl rfl | exact cGtr rfl rfl rfl | exact cGeq rfl rfl rfl | exact cEql rfl rfl rfl | exact cNeq rfl rfl rfl | exact cExtract rfl rfl rfl)
                 rotate_left))
        intro a w12 hF hb hN
        have hBs := hB.size
        replace hB := hB.trans (hb.mono hB.size)
        dsimp only [ext, Option.getD] at hF
        repeat (first | with_reducible refine wp_seq ?_ | with_reducible refine nThen ?_ | with_reducible refine nBlk ?_ | with_reducible refine wp_skip ?_ | with_reducible refine wp_block ?_ | with_reducible refine wp_exit ?_ | with_reducible refine xThen ?_ | with_reducible refine xHere ?_ | with_reducible refine xFar (by decide) ?_ | with_reducible refine wp_ret ?_ | with_reducible refine rThen ?_ | with_reducible refine rBlk ?_)
        exact ⟨rfl, hF.keep [26, 6, 8, 9], hB, hb6.below hb, hb8.below hb, (Ty.seg w 105 65 _ _).below hs8 hb⟩
    clear hF hB hb6 hb8 hs8 a wr
    rintro e a wr ⟨rfl, hF, hB, hb6, hb8, hs8⟩
    have hp8 := tblk_at hb8
    repeat (first | with_reducible refine wp_seq ?_ | with_reducible refine nThen ?_ | with_reducible refine nBlk ?_ | with_reducible refine wp_skip ?_ | with_reducible refine wp_block ?_ | with_reducible refine wp_exit ?_ | with_reducible refine xThen ?_ | with_reducible refine xHere ?_ | with_reducible refine xFar (by decide) ?_ | with_reducible refine wp_ret ?_ | with_reducible refine rThen ?_ | with_reducible refine rBlk ?_)
    refine cond_f hF rfl ?_
    repeat (first | with_reducible refine wp_seq ?_ | with_reducible refine nThen ?_ | with_reducible refine nBlk ?_ | with_reducible refine wp_skip ?_ | with_reducible refine wp_block ?_ | with_reducible refine wp_exit ?_ | with_reducible refine xThen ?_ | with_reducible refine xHere ?_ | with_reducible refine xFar (by decide) ?_ | with_reducible refine wp_ret ?_ | with_reducible refine rThen ?_ | with_reducible refine rBlk ?_)
    refine wp_region_lit ?_
    refine' tlOp hF rfl rfl rfl ?_ ?_
    rotate_left
    · first | exact cLoadT83 rfl (.l rfl hp8) | exact cMove rfl rfl | exact cAssign rfl rfl | exact cPickT rfl rfl rfl | exact cPickF rfl rfl rfl | exact cNot rfl rfl | exact cLss rfl rfl rfl | exact cLeq rfl rfl rfl | exact cGtr rfl rfl rfl | exact cGeq rfl rfl rfl | exact cEql rfl rfl rfl | exact cNeq rfl rfl rfl | exact cExtract rfl rfl rfl
    intro a w13 hF hb
    have hBs := hB.size
    replace hB := hB.trans (hb.mono hB.size)
    try (refine wpList_nil ?_)
    repeat (first | with_reducible refine wp_seq ?_ | with_reducible refine nThen ?_ | with_reducible refine nBlk ?_ | with_reducible refine wp_skip ?_ | with_reducible refine wp_block ?_ | with_reducible refine wp_exit ?_ | with_reducible refine xThen ?_ | with_reducible refine xHere ?_ | with_reducible refine xFar (by decide) ?_ | with_reducible refine wp_ret ?_ | with_reducible refine rThen ?_ | with_reducible refine rBlk ?_)
    replace hb6 := hb6.below hb
    replace hs8 := (Ty.seg w 105 65 _ _).below hs8 hb
    refine' tlOp hF rfl rfl rfl ?_ ?_
    rotate_left
    · first | exact cMove rfl rfl | exact cAssign rfl rfl | exact cPickT rfl rfl rfl | exact cPickF rfl rfl rfl | exact cNot rfl rfl | exact cLss rfl rfl rfl | exact cLeq rfl rfl rfl | exact cGtr rfl rfl rfl | exact cGeq rfl rfl rfl | exact cEql rfl rfl rfl | exact cNeq rfl rfl rfl | exact cExtract rfl rfl rfl
    intro a w14 hF hb
    have hBs := hB.size
    replace hB := hB.trans (hb.mono hB.size)
    try (refine wpList_nil ?_)
    repeat (first | with_reducible refine wp_seq ?_ | with_reducible refine nThen ?_ | with_reducible refine nBlk ?_ | with_reducible refine wp_skip ?_ | with_reducible refine wp_block ?_ | with_reducible refine wp_exit ?_ | with_reducible refine xThen ?_ | with_reducible refine xHere ?_ | with_reducible refine xFar (by decide) ?_ | with_reducible refine wp_ret ?_ | with_reducible refine rThen ?_ | with_reducible refine rBlk ?_)
    replace hb6 := hb6.below hb
    replace hs8 := (Ty.seg w 105 65 _ _).below hs8 hb
    have hq8 := hs8
    obtain ⟨S, hS1, hS2⟩ := hs8
    refine tlStoreV (Δ := [(6, Ty.ex (.pointer (some ⟨g6, 0, none⟩))), (36, Ty.ex (.int .i64 1))]) hF rfl rfl rfl rfl (hF.getEx (s := 35) rfl) hb6 rfl sizeT83 (sl_one hS1.sl _) (hF.keep [6, 36]) rfl ?_
    intro w15 hF hb6' hkx
    replace hS1 := hS1.keeps hkx (seg_far hS1 hb6 (by decide))
    replace hB := below_own hB hkx hn66
    refine' tlOp hF rfl rfl rfl ?_ ?_
    rotate_left
    · first | exact cMove rfl rfl | exact cAssign rfl rfl | exact cPickT rfl rfl rfl | exact cPickF rfl rfl rfl | exact cNot rfl rfl | exact cLss rfl rfl rfl | exact cLeq rfl rfl rfl | exact cGtr rfl rfl rfl | exact cGeq rfl rfl rfl | exact cEql rfl rfl rfl | exact cNeq rfl rfl rfl | exact cExtract rfl rfl rfl
    intro a w16 hF hb
    have hBs := hB.size
    replace hB := hB.trans (hb.mono hB.size)
    try (refine wpList_nil ?_)
    repeat (first | with_reducible refine wp_seq ?_ | with_reducible refine nThen ?_ | with_reducible refine nBlk ?_ | with_reducible refine wp_skip ?_ | with_reducible refine wp_block ?_ | with_reducible refine wp_exit ?_ | with_reducible refine xThen ?_ | with_reducible refine xHere ?_ | with_reducible refine xFar (by decide) ?_ | with_reducible refine wp_ret ?_ | with_reducible refine rThen ?_ | with_reducible refine rBlk ?_)
    refine retCell2 hF rfl rfl rfl (hb6'.below hb) Try.underlying52 rfl sizeT83 ?_
    exact ⟨_, rfl, ⟨_, rfl, s8, rfl, S, hS1.below hb, hS2⟩, hB⟩
  have hr := of_decide_eq_true hgn
  have e2 : newS seed n = seed := by unfold newS; rw [hgn]; rfl
  have e3 : newE n = .int .i64 0 := by unfold newE; rw [hgn]; rfl
  have e4 : newL n = tzero n.toNat := by unfold newL; rw [hgn]; rfl
  rw [e2, e3, if_pos hgn]
  rw [e3] at hF
  rw [e2] at hb8
  rw [e4] at hs8
  have lZ : (tzero n.toNat).length ≤ 1000000 := by rw [tzero_len]; omega
  clear e2 e3 e4 nw
  generalize tzero n.toNat = Z at *
  refine loop_ty (fun m a wr => ∃ (k : Nat) (s : Value), k + m = X.length ∧ Fr 37 [(2, Ty.sums 61 X), (6, Ty.ex (.pointer (some ⟨g6, 0, none⟩))), (8, Ty.ex (.pointer (some ⟨g8, 0, none⟩))), (9, Ty.ex (.int .i64 0)), (10, Ty.ex (.int .i64 (k : Int)))] a wr ∧ Below w.heap.size w wr ∧ Blk wr g6 52 zeroT ∧ Blk wr g8 52 #[.int .u64 (seed : Int), s] ∧ (Ty.seg w 105 65 (tall seed Z (X.take k) 1).length (flatC (tall seed Z (X.take k) 1))).p wr s) X.length ?_ ?_
  · exact ⟨0, s8, by omega, hF.as (hF.keep [6, 8, 9, 10]) (s := 2) rfl (fun v hv => seg_sl _ _ hv), hB, hb6, hb8, hs8⟩
  clear hF hB hb6 hb8 hs8
  rintro m a wr ⟨k, s, hk, hF, hB, hb6, hb8, hs8⟩
  have hlk : (tall seed Z (X.take k) 1).length = Z.length := tall_len _ _ _ _
  repeat (first | with_reducible refine wp_seq ?_ | with_reducible refine nThen ?_ | with_reducible refine nBlk ?_ | with_reducible refine wp_skip ?_ | with_reducible refine wp_block ?_ | with_reducible refine wp_exit ?_ | with_reducible refine xThen ?_ | with_reducible refine xHere ?_ | with_reducible refine xFar (by decide) ?_ | with_reducible refine wp_ret ?_ | with_reducible refine rThen ?_ | with_reducible refine rBlk ?_)
  by_cases hlt : k < X.length
  rotate_left
  · obtain rfl : k = X.length := by omega
    rw [List.take_length] at hs8
    generalize tall seed Z X 1 = U at *
    refine' reg_all hF ?_ mixed (by kernel_rfl) ?_
    rotate_left
    · repeat (first
          | exact Line.nil
          | (refine' Line.cons rfl (.no rfl rfl rfl rfl rfl rfl) ?_; rotate_left)
          | ((first | refine' Line.cons rfl (.run rfl rfl ?_) ?_ | refine' Line.cons rfl (.yes rfl rfl rfl rfl ?_) ?_)
             any_goals (first | exact cMove rfl rfl | exact cAssign rfl rfl | exact cNot rfl rfl | exact cLenH rfl (.t rfl) (Ty.sl_isSl _ _ _) Try.underlying58 | exact OpOk.b (c := false) (cLss rfl rfl rfl) (decide_eq_false (by omega)) | exact OpOk.b (c := true) (cEql rfl rfl rfl) rfl | exact cPickT rfl rfl rfl | exact cPickF rfl rfl rfl | exact cLss rfl rfl rfl | exact cLeq rfl rfl rfl | exact cGtr rfl rfl rfl | exact cGeq rfl rfl rfl | exact cEql rfl rfl rfl | exact cNeq rfl rfl rfl | exact cExtract rfl rfl rfl)
             rotate_left))
    intro a w12 hF hb hN
    have hBs := hB.size
    replace hB := hB.trans (hb.mono hB.size)
    dsimp only [ext, Option.getD] at hF
    repeat (first | with_reducible refine wp_seq ?_ | with_reducible refine nThen ?_ | with_reducible refine nBlk ?_ | with_reducible refine wp_skip ?_ | with_reducible refine wp_block ?_ | with_reducible refine wp_exit ?_ | with_reducible refine xThen ?_ | with_reducible refine xHere ?_ | with_reducible refine xFar (by decide) ?_ | with_reducible refine wp_ret ?_ | with_reducible refine rThen ?_ | with_reducible refine rBlk ?_)
    replace hb6 := hb6.below hb
    replace hb8 := hb8.below hb
    replace hs8 := (Ty.seg w 105 65 _ _).below hs8 hb
    have hp8 := tblk_at hb8
    refine cond_f hF rfl ?_
    repeat (first | with_reducible refine wp_seq ?_ | with_reducible refine nThen ?_ | with_reducible refine nBlk ?_ | with_reducible refine wp_skip ?_ | with_reducible refine wp_block ?_ | with_reducible refine wp_exit ?_ | with_reducible refine xThen ?_ | with_reducible refine xHere ?_ | with_reducible refine xFar (by decide) ?_ | with_reducible refine wp_ret ?_ | with_reducible refine rThen ?_ | with_reducible refine rBlk ?_)
    refine wp_region_lit ?_
    refine' tlOp hF rfl rfl rfl ?_ ?_
    rotate_left
    · first | exact cLoadT83 rfl (.l rfl hp8) | exact cMove rfl rfl | exact cAssign rfl rfl | exact cPickT rfl rfl rfl | exact cPickF rfl rfl rfl | exact cNot rfl rfl | exact cLss rfl rfl rfl | exact cLeq rfl rfl rfl | exact cGtr rfl rfl rfl | exact cGeq rfl rfl rfl | exact cEql rfl rfl rfl | exact cNeq rfl rfl rfl | exact cExtract rfl rfl rfl
    intro a w13 hF hb
    have hBs := hB.size
    replace hB := hB.trans (hb.mono hB.size)
    try (refine wpList_nil ?_)
    repeat (first | with_reducible refine wp_seq ?_ | with_reducible refine nThen ?_ | with_reducible refine nBlk ?_ | with_reducible refine wp_skip ?_ | with_reducible refine wp_block ?_ | with_reducible refine wp_exit ?_ | with_reducible refine xThen ?_ | with_reducible refine xHere ?_ | with_reducible refine xFar (by decide) ?_ | with_reducible refine wp_ret ?_ | with_reducible refine rThen ?_ | with_reducible refine rBlk ?_)
    replace hb6 := hb6.below hb
    replace hs8 := (Ty.seg w 105 65 _ _).below hs8 hb
    refine' tlOp hF rfl rfl rfl ?_ ?_
    rotate_left
    · first | exact cMove rfl rfl | exact cAssign rfl rfl | exact cPickT rfl rfl rfl | exact cPickF rfl rfl rfl | exact cNot rfl rfl | exact cLss rfl rfl rfl | exact cLeq rfl rfl rfl | exact cGtr rfl rfl rfl | exact cGeq rfl rfl rfl | exact cEql rfl rfl rfl | exact cNeq rfl rfl rfl | exact cExtract rfl rfl rfl
    intro a w14 hF hb
    have hBs := hB.size
    replace hB := hB.trans (hb.mono hB.size)
    try (refine wpList_nil ?_)
    repeat (first | with_reducible refine wp_seq ?_ | with_reducible refine nThen ?_ | with_reducible refine nBlk ?_ | with_reducible refine wp_skip ?_ | with_reducible refine wp_block ?_ | with_reducible refine wp_exit ?_ | with_reducible refine xThen ?_ | with_reducible refine xHere ?_ | with_reducible refine xFar (by decide) ?_ | with_reducible refine wp_ret ?_ | with_reducible refine rThen ?_ | with_reducible refine rBlk ?_)
    replace hb6 := hb6.below hb
    replace hs8 := (Ty.seg w 105 65 _ _).below hs8 hb
    obtain ⟨S, hS1, hS2⟩ := hs8
    refine tlStoreV (Δ := [(6, Ty.ex (.pointer (some ⟨g6, 0, none⟩))), (36, Ty.ex (.int .i64 0))]) hF rfl rfl rfl rfl (hF.getEx (s := 35) rfl) hb6 rfl sizeT83 (sl_one hS1.sl _) (hF.keep [6, 36]) rfl ?_
    intro w15 hF hb6' hkx
    replace hS1 := hS1.keeps hkx (seg_far hS1 hb6 (by decide))
    replace hB := below_own hB hkx hn66
    refine' tlOp hF rfl rfl rfl ?_ ?_
    rotate_left
    · first | exact cMove rfl rfl | exact cAssign rfl rfl | exact cPickT rfl rfl rfl | exact cPickF rfl rfl rfl | exact cNot rfl rfl | exact cLss rfl rfl rfl | exact cLeq rfl rfl rfl | exact cGtr rfl rfl rfl | exact cGeq rfl rfl rfl | exact cEql rfl rfl rfl | exact cNeq rfl rfl rfl | exact cExtract rfl rfl rfl
    intro a w16 hF hb
    have hBs := hB.size
    replace hB := hB.trans (hb.mono hB.size)
    try (refine wpList_nil ?_)
    repeat (first | with_reducible refine wp_seq ?_ | with_reducible refine nThen ?_ | with_reducible refine nBlk ?_ | with_reducible refine wp_skip ?_ | with_reducible refine wp_block ?_ | with_reducible refine wp_exit ?_ | with_reducible refine xThen ?_ | with_reducible refine xHere ?_ | with_reducible refine xFar (by decide) ?_ | with_reducible refine wp_ret ?_ | with_reducible refine rThen ?_ | with_reducible refine rBlk ?_)
    refine retCell2 hF rfl rfl rfl (hb6'.below hb) Try.underlying52 rfl sizeT83 ?_
    exact ⟨_, rfl, ⟨_, rfl, s, rfl, S, hS1.below hb, hS2⟩, hB⟩
  refine' reg_all hF ?_ mixed (by kernel_rfl) ?_
  rotate_left
  · repeat (first
        | exact Line.nil
        | (refine' Line.cons rfl (.no rfl rfl rfl rfl rfl rfl) ?_; rotate_left)
        | ((first | refine' Line.cons rfl (.run rfl rfl ?_) ?_ | refine' Line.cons rfl (.yes rfl rfl rfl rfl ?_) ?_)
           any_goals (first | exact cMove rfl rfl | exact cAssign rfl rfl | exact cNot rfl rfl | exact cLenH rfl (.t rfl) (Ty.sl_isSl _ _ _) Try.underlying58 | exact OpOk.b (c := true) (cLss rfl rfl rfl) (decide_eq_true (by omega)) | exact OpOk.b (c := true) (cEql rfl rfl rfl) rfl | exact cPickT rfl rfl rfl | exact cPickF rfl rfl rfl | exact cLss rfl rfl rfl | exact cLeq rfl rfl rfl | exact cGtr rfl rfl rfl | exact cGeq rfl rfl rfl | exact cEql rfl rfl rfl | exact cNeq rfl rfl rfl | exact cExtract rfl rfl rfl)
           rotate_left))
  intro a w12 hF hb hN
  have hBs := hB.size
  replace hB := hB.trans (hb.mono hB.size)
  dsimp only [ext, Option.getD] at hF
  repeat (first | with_reducible refine wp_seq ?_ | with_reducible refine nThen ?_ | with_reducible refine nBlk ?_ | with_reducible refine wp_skip ?_ | with_reducible refine wp_block ?_ | with_reducible refine wp_exit ?_ | with_reducible refine xThen ?_ | with_reducible refine xHere ?_ | with_reducible refine xFar (by decide) ?_ | with_reducible refine wp_ret ?_ | with_reducible refine rThen ?_ | with_reducible refine rBlk ?_)
  replace hb6 := hb6.below hb
  replace hb8 := hb8.below hb
  replace hs8 := (Ty.seg w 105 65 _ _).below hs8 hb
  have hp8 := tblk_at hb8
  refine cond_t hF rfl ?_
  have hnx := tall_next seed Z X hlt 1
  have hput := rput_ty seed (tall seed Z (X.take k) 1) (X.getD k default) 1 (by rw [tall_len]; exact lZ) hsd
  rw [← hnx] at hput
  have ht8 : (Ty.tab 105 seed (tall seed Z (X.take k) 1)).p w12 (.agg #[.int .u64 (seed : Int), s]) := ⟨s, rfl, seg_sl _ _ hs8⟩
  generalize tall seed Z (X.take k) 1 = Lk at *
  generalize hLn : tall seed Z (X.take (k + 1)) 1 = Ln at *
  have hB0 := hB
  have hw12 := hB.size
  replace hB := Below.refl w12.heap.size w12
  repeat (first | with_reducible refine wp_seq ?_ | with_reducible refine nThen ?_ | with_reducible refine nBlk ?_ | with_reducible refine wp_skip ?_ | with_reducible refine wp_block ?_ | with_reducible refine wp_exit ?_ | with_reducible refine xThen ?_ | with_reducible refine xHere ?_ | with_reducible refine xFar (by decide) ?_ | with_reducible refine wp_ret ?_ | with_reducible refine rThen ?_ | with_reducible refine rBlk ?_)
  refine' region_ty 6 mixed (by kernel_rfl) hF ?_ ?_
  rotate_left
  · simp only [List.take_succ_cons, List.take_zero]
    repeat (first
        | exact Line.nil
        | (refine' Line.cons rfl (.no rfl rfl rfl rfl rfl rfl) ?_; rotate_left)
        | ((first | refine' Line.cons rfl (.run rfl rfl ?_) ?_ | refine' Line.cons rfl (.yes rfl rfl rfl rfl ?_) ?_)
           any_goals (first | exact cMove rfl rfl | exact cAssign rfl rfl | exact cNot rfl rfl | exact cLoadT83 rfl (.l rfl hp8) | exact cIndexSum (L := X) (k := k) rfl (.t rfl) rfl Try.underlying58 sizeR hlt | exact cLoadSum rfl (.t rfl) Try.underlying61 sizeR | exact cCallR3 rfl (.l rfl ht8) (.t rfl) (.t rfl) hput (tabO_olds _ _ _) | exact cPickT rfl rfl rfl | exact cPickF rfl rfl rfl | exact cLss rfl rfl rfl | exact cLeq rfl rfl rfl | exact cGtr rfl rfl rfl | exact cGeq rfl rfl rfl | exact cEql rfl rfl rfl | exact cNeq rfl rfl rfl | exact cExtract rfl rfl rfl)
           rotate_left))
  intro a w13 hF hb hN
  have hBs := hB.size
  replace hB := hB.trans (hb.mono hB.size)
  simp only [List.take_succ_cons, List.take_zero, List.drop_succ_cons, List.drop_zero] at hF hN ⊢
  dsimp only [ext, Option.getD] at hF
  replace hb6 := hb6.below hb
  replace hb8 := hb8.below hb
  obtain ⟨z, ⟨u34, rfl, S, hS1, hS2⟩, hF⟩ := hF.open (s := 34) rfl
  refine tlStoreV (Δ := [(2, Ty.sums 61 X), (6, Ty.ex (.pointer (some ⟨g6, 0, none⟩))), (8, Ty.ex (.pointer (some ⟨g8, 0, none⟩))), (9, Ty.ex (.int .i64 0)), (10, Ty.ex (.int .i64 (k : Int)))]) hF rfl rfl rfl rfl (hF.getEx (s := 34) rfl) hb8 rfl sizeT83 (sl_one hS1.sl _) (hF.keep [2, 6, 8, 9, 10]) rfl ?_
  intro w15 hF hb8' hkx
  refine wpList_nil ?_
  replace hS1 := hS1.keeps hkx (seg_far hS1 hb8 (by decide))
  replace hb6 := hb6.keeps hkx hn68
  have hB15 : Below w.heap.size w w15 := below_own (hB0.trans (hB.mono hB0.size)) hkx hn86
  replace hB := hB15
  replace hb8 : Blk w15 g8 52 #[.int .u64 (seed : Int), u34] := hb8'
  repeat (first | with_reducible refine wp_seq ?_ | with_reducible refine nThen ?_ | with_reducible refine nBlk ?_ | with_reducible refine wp_skip ?_ | with_reducible refine wp_block ?_ | with_reducible refine wp_exit ?_ | with_reducible refine xThen ?_ | with_reducible refine xHere ?_ | with_reducible refine xFar (by decide) ?_ | with_reducible refine wp_ret ?_ | with_reducible refine rThen ?_ | with_reducible refine rBlk ?_)
  refine' reg_all hF ?_ mixed (by kernel_rfl) ?_
  rotate_left
  · repeat (first
        | exact Line.nil
        | (refine' Line.cons rfl (.no rfl rfl rfl rfl rfl rfl) ?_; rotate_left)
        | ((first | refine' Line.cons rfl (.run rfl rfl ?_) ?_ | refine' Line.cons rfl (.yes rfl rfl rfl rfl ?_) ?_)
           any_goals (first | exact cMove rfl rfl | exact cAssign rfl rfl | exact cNot rfl rfl | exact cAdd (r := ((k + 1 : Nat) : Int)) rfl rfl rfl (by omega) | exact cPickT rfl rfl rfl | exact cPickF rfl rfl rfl | exact cLss rfl rfl rfl | exact cLeq rfl rfl rfl | exact cGtr rfl rfl rfl | exact cGeq rfl rfl rfl | exact cEql rfl rfl rfl | exact cNeq rfl rfl rfl | exact cExtract rfl rfl rfl)
           rotate_left))
  intro a w16 hF hb hN
  have hBs := hB.size
  replace hB := hB.trans (hb.mono hB.size)
  dsimp only [ext, Option.getD] at hF
  repeat (first | with_reducible refine wp_seq ?_ | with_reducible refine nThen ?_ | with_reducible refine nBlk ?_ | with_reducible refine wp_skip ?_ | with_reducible refine wp_block ?_ | with_reducible refine wp_exit ?_ | with_reducible refine xThen ?_ | with_reducible refine xHere ?_ | with_reducible refine xFar (by decide) ?_ | with_reducible refine wp_ret ?_ | with_reducible refine rThen ?_ | with_reducible refine rBlk ?_)
  refine ⟨m - 1, by omega, k + 1, u34, by omega, hF.keep [2, 6, 8, 9, 10], hB, hb6.below hb, hb8.below hb, ?_⟩
  rw [hLn]
  exact ⟨S, hS1.below hb, fun y hy => Nat.le_trans hw12 (hS2 y hy)⟩
end Go.Proofs.Ytmlbkcpmgcjblaa

/- Drawn regions walked through all their orders, by types: for small regions that store into what they make. -/
namespace Go.Proofs.Ytmlbkcpmgcjblaa
open Go.RowKit

/-- Without slot p. -/
def dropS (p : Nat) : Ctx → Ctx
  | [] => []
  | e :: Γ => bif Nat.beq e.1 p then dropS p Γ else e :: dropS p Γ
theorem dropS_look {p : Nat} : ∀ {Γ : Ctx} {s : Nat} {τ : Ty}, look (dropS p Γ) s = some τ → look Γ s = some τ
  | [], _, _, h => h
  | e :: Γ, s, τ, h => by
    unfold dropS at h
    cases hb : Nat.beq e.1 p with
    | true =>
      rw [hb] at h
      simp only [cond_true] at h
      have h1 := dropS_look h
      by_cases hes : e.1 = s
      · exfalso
        have hp : e.1 = p := Nat.eq_of_beq_eq_true hb
        have hno : ∀ Γ : Ctx, look (dropS s Γ) s = none := fun Γ => by
          induction Γ with
          | nil => rfl
          | cons e Γ ih =>
            unfold dropS
            cases hb2 : Nat.beq e.1 s with
            | true => simp only [cond_true]; exact ih
            | false => simp only [cond_false]; unfold look; rw [hb2]; exact ih
        rw [← hp, hes, hno] at h
        cases h
      · obtain ⟨d, V⟩ := e
        rw [look_ne _ _ hes]
        exact h1
    | false =>
      rw [hb] at h
      simp only [cond_false] at h
      by_cases hes : e.1 = s
      · obtain ⟨d, V⟩ := e
        have hes : d = s := hes
        subst hes
        rw [look_same] at h ⊢
        exact h
      · obtain ⟨d, V⟩ := e
        rw [look_ne _ _ hes] at h ⊢
        exact dropS_look h
theorem Fr.dropS {N : Nat} {Γ : Ctx} {a : Act} {w : World} (h : Fr N Γ a w) (p : Nat) : Fr N (dropS p Γ) a w := ⟨h.size, h.defers, fun s τ hs => h.val s τ (dropS_look hs)⟩
section
variable {P : Program} {Q : Exit → Act → World → Prop} {N : Nat} {Γ : Ctx} {a : Act} {w W : World} {o : Oper} {K : Act → World → Prop} {y : Nat → Option Bool}
theorem anyOp {d : Nat} {V : Ty} (hF : Fr N Γ a w) (hB : Below W.heap.size W w) (hg : o.guard = none) (hd : o.dst = some d) (hN : decide (d < N) = true) (h : OpOk P w Γ o V) (hk : ∀ a' w', Fr N ((d, V) :: Γ) a' w' → Below W.heap.size W w' → K a' w') : if Region.wanted o y = true then Oper.wp P o a w K Q else K (a.put o.dst undef) w := by
  simp only [Region.wanted, hg, if_true]
  refine h a w K Q (Below.refl _ _) (fun s τ _ hs => hF.val s τ hs) fun v w' hv hb => ?_
  rw [hd]
  exact hk _ _ (hF.put (of_decide_eq_true hN) hb hv) (hB.trans (hb.mono hB.size))
theorem anyNew {d : Nat} {t : TypeId} {z : Array Value} (hF : Fr N Γ a w) (hB : Below W.heap.size W w) (hg : o.guard = none) (hd : o.dst = some d) (hN : decide (d < N) = true) (ho : o.op = .alloc t) (hz : ∀ w : World, (Instr.alloc t true (.tuple #[])).run P w = .ok (.pointer (some ⟨w.heap.size, 0, none⟩)) (w.alloc (.cells z t))) (hk : ∀ a' w', Fr N ((d, Ty.var W t z) :: Γ) a' w' → Below W.heap.size W w' → K a' w') : if Region.wanted o y = true then Oper.wp P o a w K Q else K (a.put o.dst undef) w :=
  anyOp (V := Ty.var W t z) hF hB hg hd hN (OpOk.conv (τ := Ty.var w t z) (cAllocN ho hz) fun _ _ ⟨g, h1, h2, h3⟩ => ⟨g, h1, Nat.le_trans hB.size h2, h3⟩) hk
theorem anyStore {ty t : TypeId} {p q : Nat} {z : Array Value} {v : Value} {xs : List Value} (hF : Fr N Γ a w) (hB : Below W.heap.size W w) (hg : o.guard = none) (hd : o.dst = none) (ho : o.op = .store ty (.tmp p) (.tmp q)) (hp : look Γ p = some (Ty.var W t z)) (hq : look Γ q = some (Ty.ex v)) (hcs : v.cells.size = z.size) (hi : (P.info? ty).map (·.size) = some v.cells.size) (h1 : v.cells.all (·.oneCell') = true) (hx : v.cells.toList = xs) (hfree : (dropS p Γ).free t = true)
    (hk : ∀ a' w', Fr N ((p, Ty.at_ t xs) :: dropS p Γ) a' w' → Below W.heap.size W w' → K a' w') : if Region.wanted o y = true then Oper.wp P o a w K Q else K (a.put o.dst undef) w := by
  simp only [Region.wanted, hg, if_true]
  obtain ⟨u, ⟨g, rfl, hgW, hb⟩, hF'⟩ := hF.open hp
  unfold Oper.wp execOp
  simp only [ho, hF'.getEx (look_same _ _ _), hF.getEx hq, Instr.storeAt, Instr.sureAddr, Sem.run_bind, Sem.run_pure, Result.andThen_ok, storeVar_cells ty _ v, run_storeVar_mid w g 0 ty v.cells (hb.there (by omega)) hi h1]
  have h2 := hb.setCells v.cells.toList 0
  rw [splice_all _ _ (by simpa using hcs)] at h2
  have h3 : Keeps [g] w (w.setCells g 0 v.cells.toList) := Keeps.setCells (.inl (by simp)) _ _ (Keeps.refl _ _)
  have h2 : Blk (w.setCells g 0 v.cells.toList) g t v.cells := by simpa using h2
  have hB' := below_own hB h3 (by intro y hy; simp only [List.mem_singleton] at hy; omega)
  have hFd : Fr N (dropS p Γ) a (w.setCells g 0 v.cells.toList) := (hF.dropS p).free h3 (fun b hbm _ => by
    simp only [List.mem_singleton] at hbm
    subst hbm
    exact ⟨z, (0, 0), hb⟩) hfree
  have hKa : K a (w.setCells g 0 v.cells.toList) := by
    refine hk _ _ ⟨hFd.size, hFd.defers, fun s τ hs => ?_⟩ hB'
    by_cases hps : p = s
    · subst hps
      rw [look_same] at hs
      injection hs with hs
      subst hs
      obtain ⟨v', hv1, hv2⟩ := hF'.val p _ (look_same _ _ _)
      refine ⟨v', hv1, ⟨g, 0, v.cells, (0, 0), hv2, h2, fun j u hu => ?_⟩⟩
      rw [← hx] at hu
      simpa using hu
    · rw [look_ne _ _ hps] at hs
      exact hFd.val s τ hs
  unfold Oper.upon
  simp only [hd]
  exact hKa
end
end Go.Proofs.Ytmlbkcpmgcjblaa

/- Layer 10: the walks of SetParts, SetLaws. -/
namespace Go.Proofs.Ytmlbkcpmgcjblaa
open Go.RowKit

/-- A set: rising; at most n sums. -/
structure IsSet (L : List Sm) (n : Nat) : Prop where
  s : srt L
  l : L.length ≤ n
end Go.Proofs.Ytmlbkcpmgcjblaa

/- Layer 10: the walks of Add, Tell. -/
namespace Go.Proofs.Ytmlbkcpmgcjblaa
open Go.RowKit

end Go.Proofs.Ytmlbkcpmgcjblaa

/- Layer 10 by types: the document's Minus, Both, Either, Bytes, Tell. -/
namespace Go.Proofs.Ytmlbkcpmgcjblaa
open Go.RowKit

end Go.Proofs.Ytmlbkcpmgcjblaa

/- The laws' small helpers row, own: they hand back rows of the call's own. -/
namespace Go.Proofs.Ytmlbkcpmgcjblaa
open Go.RowKit

set_option maxRecDepth 100000 in
theorem row15_seg (L : List Sm) (hL : L.length ≤ 1000000) : FnSeg1 Try.prog 40 (Ty.sumsR L) 34 32 L.length (flat L) := by
  refine ⟨fun args w => by kernel_rfl, fun w v hv => ?_⟩
  refine enter_ty 19 [Ty.ex v] Try.func40 rfl (by kernel_rfl) ⟨rfl, trivial⟩ fun a hF => ?_
  have hB := Below.refl w.heap.size w
  repeat (first | with_reducible refine wp_seq ?_ | with_reducible refine nThen ?_ | with_reducible refine nBlk ?_ | with_reducible refine wp_skip ?_ | with_reducible refine wp_block ?_ | with_reducible refine wp_exit ?_ | with_reducible refine xThen ?_ | with_reducible refine xHere ?_ | with_reducible refine xFar (by decide) ?_ | with_reducible refine wp_ret ?_ | with_reducible refine rThen ?_ | with_reducible refine rBlk ?_)
  refine' reg_all hF ?_ mixed (by kernel_rfl) ?_
  rotate_left
  · repeat (first
        | exact Line.nil
        | (refine' Line.cons rfl (.no rfl rfl rfl rfl rfl rfl) ?_; rotate_left)
        | ((first | refine' Line.cons rfl (.run rfl rfl ?_) ?_ | refine' Line.cons rfl (.yes rfl rfl rfl rfl ?_) ?_)
           any_goals (first | exact cMove rfl rfl | exact cAssign rfl rfl | exact cNot rfl rfl | exact cPickT rfl rfl rfl | exact cPickF rfl rfl rfl | exact cLss rfl rfl rfl | exact cLeq rfl rfl rfl | exact cGtr rfl rfl rfl | exact cGeq rfl rfl rfl | exact cEql rfl rfl rfl | exact cNeq rfl rfl rfl | exact cExtract rfl rfl rfl)
           rotate_left))
  intro a w1 hF hb hN
  have hBs := hB.size
  replace hB := hB.trans (hb.mono hB.size)
  dsimp only [ext, Option.getD] at hF
  repeat (first | with_reducible refine wp_seq ?_ | with_reducible refine nThen ?_ | with_reducible refine nBlk ?_ | with_reducible refine wp_skip ?_ | with_reducible refine wp_block ?_ | with_reducible refine wp_exit ?_ | with_reducible refine xThen ?_ | with_reducible refine xHere ?_ | with_reducible refine xFar (by decide) ?_ | with_reducible refine wp_ret ?_ | with_reducible refine rThen ?_ | with_reducible refine rBlk ?_)
  refine' reg_all hF ?_ mixed (by kernel_rfl) ?_
  rotate_left
  · repeat (first
        | exact Line.nil
        | (refine' Line.cons rfl (.no rfl rfl rfl rfl rfl rfl) ?_; rotate_left)
        | ((first | refine' Line.cons rfl (.run rfl rfl ?_) ?_ | refine' Line.cons rfl (.yes rfl rfl rfl rfl ?_) ?_)
           any_goals (first | exact cMove rfl rfl | exact cAssign rfl rfl | exact cNot rfl rfl | exact cPickT rfl rfl rfl | exact cPickF rfl rfl rfl | exact cLss rfl rfl rfl | exact cLeq rfl rfl rfl | exact cGtr rfl rfl rfl | exact cGeq rfl rfl rfl | exact cEql rfl rfl rfl | exact cNeq rfl rfl rfl | exact cExtract rfl rfl rfl)
           rotate_left))
  intro a w2 hF hb hN
  have hBs := hB.size
  replace hB := hB.trans (hb.mono hB.size)
  dsimp only [ext, Option.getD] at hF
  repeat (first | with_reducible refine wp_seq ?_ | with_reducible refine nThen ?_ | with_reducible refine nBlk ?_ | with_reducible refine wp_skip ?_ | with_reducible refine wp_block ?_ | with_reducible refine wp_exit ?_ | with_reducible refine xThen ?_ | with_reducible refine xHere ?_ | with_reducible refine xFar (by decide) ?_ | with_reducible refine wp_ret ?_ | with_reducible refine rThen ?_ | with_reducible refine rBlk ?_)
  refine' reg_all hF ?_ mixed (by kernel_rfl) ?_
  rotate_left
  · repeat (first
        | exact Line.nil
        | (refine' Line.cons rfl (.no rfl rfl rfl rfl rfl rfl) ?_; rotate_left)
        | ((first | refine' Line.cons rfl (.run rfl rfl ?_) ?_ | refine' Line.cons rfl (.yes rfl rfl rfl rfl ?_) ?_)
           any_goals (first | exact cMove rfl rfl | exact cAssign rfl rfl | exact cNot rfl rfl | exact cPickT rfl rfl rfl | exact cPickF rfl rfl rfl | exact cLss rfl rfl rfl | exact cLeq rfl rfl rfl | exact cGtr rfl rfl rfl | exact cGeq rfl rfl rfl | exact cEql rfl rfl rfl | exact cNeq rfl rfl rfl | exact cExtract rfl rfl rfl)
           rotate_left))
  intro a w3 hF hb hN
  have hBs := hB.size
  replace hB := hB.trans (hb.mono hB.size)
  dsimp only [ext, Option.getD] at hF
  repeat (first | with_reducible refine wp_seq ?_ | with_reducible refine nThen ?_ | with_reducible refine nBlk ?_ | with_reducible refine wp_skip ?_ | with_reducible refine wp_block ?_ | with_reducible refine wp_exit ?_ | with_reducible refine xThen ?_ | with_reducible refine xHere ?_ | with_reducible refine xFar (by decide) ?_ | with_reducible refine wp_ret ?_ | with_reducible refine rThen ?_ | with_reducible refine rBlk ?_)
  refine loop_ty (fun m a wr => ∃ (k : Nat) (u : Value) (S : List Nat), k + m = L.length ∧ Fr 19 [(0, Ty.ex v), (4, Ty.ex (.int .i64 (k : Int))), (3, Ty.ex u)] a wr ∧ Below w.heap.size w wr ∧ Seg wr 34 32 u k (flat (L.take k)) S ∧ ∀ y ∈ S, w.heap.size ≤ y) L.length ?_ ?_
  · exact ⟨0, _, [], by omega, hF.keep [0, 4, 3], hB, Seg.nil _ _ _, by simp⟩
  clear hF hB
  rintro m a wr ⟨k, u, S, hk, hF, hB, hseg, hS⟩
  repeat (first | with_reducible refine wp_seq ?_ | with_reducible refine nThen ?_ | with_reducible refine nBlk ?_ | with_reducible refine wp_skip ?_ | with_reducible refine wp_block ?_ | with_reducible refine wp_exit ?_ | with_reducible refine xThen ?_ | with_reducible refine xHere ?_ | with_reducible refine xFar (by decide) ?_ | with_reducible refine wp_ret ?_ | with_reducible refine rThen ?_ | with_reducible refine rBlk ?_)
  refine' reg_all hF ?_ mixed (by kernel_rfl) ?_
  rotate_left
  · repeat (first
        | exact Line.nil
        | (refine' Line.cons rfl (.no rfl rfl rfl rfl rfl rfl) ?_; rotate_left)
        | ((first | refine' Line.cons rfl (.run rfl rfl ?_) ?_ | refine' Line.cons rfl (.yes rfl rfl rfl rfl ?_) ?_)
           any_goals (first | exact cMove rfl rfl | exact cAssign rfl rfl | exact cNot rfl rfl | exact cLenH rfl (.l rfl ((Ty.sumsR L).below hv hB)) (Ty.rd_isSl _ _) Try.underlying22 | exact cPickT rfl rfl rfl | exact cPickF rfl rfl rfl | exact cLss rfl rfl rfl | exact cLeq rfl rfl rfl | exact cGtr rfl rfl rfl | exact cGeq rfl rfl rfl | exact cEql rfl rfl rfl | exact cNeq rfl rfl rfl | exact cExtract rfl rfl rfl)
           rotate_left))
  intro a w4 hF hb hN
  have hBs := hB.size
  replace hB := hB.trans (hb.mono hB.size)
  dsimp only [ext, Option.getD] at hF
  repeat (first | with_reducible refine wp_seq ?_ | with_reducible refine nThen ?_ | with_reducible refine nBlk ?_ | with_reducible refine wp_skip ?_ | with_reducible refine wp_block ?_ | with_reducible refine wp_exit ?_ | with_reducible refine xThen ?_ | with_reducible refine xHere ?_ | with_reducible refine xFar (by decide) ?_ | with_reducible refine wp_ret ?_ | with_reducible refine rThen ?_ | with_reducible refine rBlk ?_)
  replace hseg := hseg.below hb
  refine cond_ty hF rfl (fun hlt => ?_) (fun hge => ?_)
  · have hlt : k < L.length := by simpa using hlt
    repeat (first | with_reducible refine wp_seq ?_ | with_reducible refine nThen ?_ | with_reducible refine nBlk ?_ | with_reducible refine wp_skip ?_ | with_reducible refine wp_block ?_ | with_reducible refine wp_exit ?_ | with_reducible refine xThen ?_ | with_reducible refine xHere ?_ | with_reducible refine xFar (by decide) ?_ | with_reducible refine wp_ret ?_ | with_reducible refine rThen ?_ | with_reducible refine rBlk ?_)
    refine' region_ty 6 mixed (by kernel_rfl) hF ?_ ?_
    rotate_left
    · simp only [List.take_succ_cons, List.take_zero]
      repeat (first
          | exact Line.nil
          | (refine' Line.cons rfl (.no rfl rfl rfl rfl rfl rfl) ?_; rotate_left)
          | ((first | refine' Line.cons rfl (.run rfl rfl ?_) ?_ | refine' Line.cons rfl (.yes rfl rfl rfl rfl ?_) ?_)
             any_goals (first | exact cMove rfl rfl | exact cAssign rfl rfl | exact cNot rfl rfl | exact cIndexSumR rfl (.l rfl ((Ty.sumsR L).below hv hB)) rfl Try.underlying22 sizeA hlt | exact cLoadSumR rfl (.t rfl) Try.underlying33 sizeA | exact cBuildSums [L.getD k default] rfl (parts1v rfl rfl) Try.underlying25 infoS rfl | exact cPickT rfl rfl rfl | exact cPickF rfl rfl rfl | exact cLss rfl rfl rfl | exact cLeq rfl rfl rfl | exact cGtr rfl rfl rfl | exact cGeq rfl rfl rfl | exact cEql rfl rfl rfl | exact cNeq rfl rfl rfl | exact cExtract rfl rfl rfl)
             rotate_left))
    intro a w5 hF hb hN
    have hBs := hB.size
    replace hB := hB.trans (hb.mono hB.size)
    simp only [List.take_succ_cons, List.take_zero, List.drop_succ_cons, List.drop_zero] at hF hN ⊢
    dsimp only [ext, Option.getD] at hF
    replace hseg := hseg.below hb
    refine tlAppend (Δ := [(0, Ty.ex v), (4, Ty.ex (.int .i64 (k : Int)))]) hF rfl rfl rfl rfl Try.underlying25 infoS zero32_size rfl hseg (.t rfl) sl_news (flat_len _) flat_one' (by simp [maxLen]; omega) (by simp; omega) (hF.keep [0, 4]) rfl ?_
    intro a w6 u' S' hF hseg hk2 hS'
    replace hS' := own_next hB hS hS'
    replace hB := below_own hB hk2 hS
    refine' tlOp hF rfl rfl rfl ?_ ?_
    rotate_left
    · first | exact cMove rfl rfl | exact cAssign rfl rfl | exact cPickT rfl rfl rfl | exact cPickF rfl rfl rfl | exact cNot rfl rfl | exact cLss rfl rfl rfl | exact cLeq rfl rfl rfl | exact cGtr rfl rfl rfl | exact cGeq rfl rfl rfl | exact cEql rfl rfl rfl | exact cNeq rfl rfl rfl | exact cExtract rfl rfl rfl
    intro a w7 hF hb
    have hBs := hB.size
    replace hB := hB.trans (hb.mono hB.size)
    try (refine wpList_nil ?_)
    repeat (first | with_reducible refine wp_seq ?_ | with_reducible refine nThen ?_ | with_reducible refine nBlk ?_ | with_reducible refine wp_skip ?_ | with_reducible refine wp_block ?_ | with_reducible refine wp_exit ?_ | with_reducible refine xThen ?_ | with_reducible refine xHere ?_ | with_reducible refine xFar (by decide) ?_ | with_reducible refine wp_ret ?_ | with_reducible refine rThen ?_ | with_reducible refine rBlk ?_)
    replace hseg := hseg.below hb
    refine' reg_all hF ?_ mixed (by kernel_rfl) ?_
    rotate_left
    · repeat (first
          | exact Line.nil
          | (refine' Line.cons rfl (.no rfl rfl rfl rfl rfl rfl) ?_; rotate_left)
          | ((first | refine' Line.cons rfl (.run rfl rfl ?_) ?_ | refine' Line.cons rfl (.yes rfl rfl rfl rfl ?_) ?_)
             any_goals (first | exact cMove rfl rfl | exact cAssign rfl rfl | exact cNot rfl rfl | exact cAdd (r := ((k + 1 : Nat) : Int)) rfl rfl rfl (by omega) | exact cPickT rfl rfl rfl | exact cPickF rfl rfl rfl | exact cLss rfl rfl rfl | exact cLeq rfl rfl rfl | exact cGtr rfl rfl rfl | exact cGeq rfl rfl rfl | exact cEql rfl rfl rfl | exact cNeq rfl rfl rfl | exact cExtract rfl rfl rfl)
             rotate_left))
    intro a w8 hF hb hN
    have hBs := hB.size
    replace hB := hB.trans (hb.mono hB.size)
    dsimp only [ext, Option.getD] at hF
    repeat (first | with_reducible refine wp_seq ?_ | with_reducible refine nThen ?_ | with_reducible refine nBlk ?_ | with_reducible refine wp_skip ?_ | with_reducible refine wp_block ?_ | with_reducible refine wp_exit ?_ | with_reducible refine xThen ?_ | with_reducible refine xHere ?_ | with_reducible refine xFar (by decide) ?_ | with_reducible refine wp_ret ?_ | with_reducible refine rThen ?_ | with_reducible refine rBlk ?_)
    rw [flat_one, flat_snoc L hlt] at hseg
    exact ⟨m - 1, by omega, k + 1, u', S', by omega, hF.keep [0, 4, 3], hB, hseg.below hb, hS'⟩
  · have hge : ¬ k < L.length := by simpa using hge
    obtain rfl : k = L.length := by omega
    rw [List.take_length] at hseg
    repeat (first | with_reducible refine wp_seq ?_ | with_reducible refine nThen ?_ | with_reducible refine nBlk ?_ | with_reducible refine wp_skip ?_ | with_reducible refine wp_block ?_ | with_reducible refine wp_exit ?_ | with_reducible refine xThen ?_ | with_reducible refine xHere ?_ | with_reducible refine xFar (by decide) ?_ | with_reducible refine wp_ret ?_ | with_reducible refine rThen ?_ | with_reducible refine rBlk ?_)
    refine' reg_all hF ?_ mixed (by kernel_rfl) ?_
    rotate_left
    · repeat (first
          | exact Line.nil
          | (refine' Line.cons rfl (.no rfl rfl rfl rfl rfl rfl) ?_; rotate_left)
          | ((first | refine' Line.cons rfl (.run rfl rfl ?_) ?_ | refine' Line.cons rfl (.yes rfl rfl rfl rfl ?_) ?_)
             any_goals (first | exact cMove rfl rfl | exact cAssign rfl rfl | exact cNot rfl rfl | exact cPickT rfl rfl rfl | exact cPickF rfl rfl rfl | exact cLss rfl rfl rfl | exact cLeq rfl rfl rfl | exact cGtr rfl rfl rfl | exact cGeq rfl rfl rfl | exact cEql rfl rfl rfl | exact cNeq rfl rfl rfl | exact cExtract rfl rfl rfl)
             rotate_left))
    intro a w5 hF hb hN
    have hBs := hB.size
    replace hB := hB.trans (hb.mono hB.size)
    dsimp only [ext, Option.getD] at hF
    repeat (first | with_reducible refine wp_seq ?_ | with_reducible refine nThen ?_ | with_reducible refine nBlk ?_ | with_reducible refine wp_skip ?_ | with_reducible refine wp_block ?_ | with_reducible refine wp_exit ?_ | with_reducible refine xThen ?_ | with_reducible refine xHere ?_ | with_reducible refine xFar (by decide) ?_ | with_reducible refine wp_ret ?_ | with_reducible refine rThen ?_ | with_reducible refine rBlk ?_)
    refine ret1 hF rfl rfl fun z hz => ?_
    have hz : z = u := hz
    subst hz
    exact ⟨z, rfl, ⟨S, hseg.below hb, hS⟩, hB⟩
set_option maxRecDepth 100000 in
theorem own15_seg (L : List Sm) (hL : L.length ≤ 1000000) : FnSeg1 Try.prog 42 (Ty.sums 34 L) 61 32 L.length (flat L) := by
  refine ⟨fun args w => by kernel_rfl, fun w v hv => ?_⟩
  refine enter_ty 19 [Ty.ex v] Try.func42 rfl (by kernel_rfl) ⟨rfl, trivial⟩ fun a hF => ?_
  have hB := Below.refl w.heap.size w
  repeat (first | with_reducible refine wp_seq ?_ | with_reducible refine nThen ?_ | with_reducible refine nBlk ?_ | with_reducible refine wp_skip ?_ | with_reducible refine wp_block ?_ | with_reducible refine wp_exit ?_ | with_reducible refine xThen ?_ | with_reducible refine xHere ?_ | with_reducible refine xFar (by decide) ?_ | with_reducible refine wp_ret ?_ | with_reducible refine rThen ?_ | with_reducible refine rBlk ?_)
  refine' reg_all hF ?_ mixed (by kernel_rfl) ?_
  rotate_left
  · repeat (first
        | exact Line.nil
        | (refine' Line.cons rfl (.no rfl rfl rfl rfl rfl rfl) ?_; rotate_left)
        | ((first | refine' Line.cons rfl (.run rfl rfl ?_) ?_ | refine' Line.cons rfl (.yes rfl rfl rfl rfl ?_) ?_)
           any_goals (first | exact cMove rfl rfl | exact cAssign rfl rfl | exact cNot rfl rfl | exact cPickT rfl rfl rfl | exact cPickF rfl rfl rfl | exact cLss rfl rfl rfl | exact cLeq rfl rfl rfl | exact cGtr rfl rfl rfl | exact cGeq rfl rfl rfl | exact cEql rfl rfl rfl | exact cNeq rfl rfl rfl | exact cExtract rfl rfl rfl)
           rotate_left))
  intro a w1 hF hb hN
  have hBs := hB.size
  replace hB := hB.trans (hb.mono hB.size)
  dsimp only [ext, Option.getD] at hF
  repeat (first | with_reducible refine wp_seq ?_ | with_reducible refine nThen ?_ | with_reducible refine nBlk ?_ | with_reducible refine wp_skip ?_ | with_reducible refine wp_block ?_ | with_reducible refine wp_exit ?_ | with_reducible refine xThen ?_ | with_reducible refine xHere ?_ | with_reducible refine xFar (by decide) ?_ | with_reducible refine wp_ret ?_ | with_reducible refine rThen ?_ | with_reducible refine rBlk ?_)
  refine' reg_all hF ?_ mixed (by kernel_rfl) ?_
  rotate_left
  · repeat (first
        | exact Line.nil
        | (refine' Line.cons rfl (.no rfl rfl rfl rfl rfl rfl) ?_; rotate_left)
        | ((first | refine' Line.cons rfl (.run rfl rfl ?_) ?_ | refine' Line.cons rfl (.yes rfl rfl rfl rfl ?_) ?_)
           any_goals (first | exact cMove rfl rfl | exact cAssign rfl rfl | exact cNot rfl rfl | exact cPickT rfl rfl rfl | exact cPickF rfl rfl rfl | exact cLss rfl rfl rfl | exact cLeq rfl rfl rfl | exact cGtr rfl rfl rfl | exact cGeq rfl rfl rfl | exact cEql rfl rfl rfl | exact cNeq rfl rfl rfl | exact cExtract rfl rfl rfl)
           rotate_left))
  intro a w2 hF hb hN
  have hBs := hB.size
  replace hB := hB.trans (hb.mono hB.size)
  dsimp only [ext, Option.getD] at hF
  repeat (first | with_reducible refine wp_seq ?_ | with_reducible refine nThen ?_ | with_reducible refine nBlk ?_ | with_reducible refine wp_skip ?_ | with_reducible refine wp_block ?_ | with_reducible refine wp_exit ?_ | with_reducible refine xThen ?_ | with_reducible refine xHere ?_ | with_reducible refine xFar (by decide) ?_ | with_reducible refine wp_ret ?_ | with_reducible refine rThen ?_ | with_reducible refine rBlk ?_)
  refine' reg_all hF ?_ mixed (by kernel_rfl) ?_
  rotate_left
  · repeat (first
        | exact Line.nil
        | (refine' Line.cons rfl (.no rfl rfl rfl rfl rfl rfl) ?_; rotate_left)
        | ((first | refine' Line.cons rfl (.run rfl rfl ?_) ?_ | refine' Line.cons rfl (.yes rfl rfl rfl rfl ?_) ?_)
           any_goals (first | exact cMove rfl rfl | exact cAssign rfl rfl | exact cNot rfl rfl | exact cPickT rfl rfl rfl | exact cPickF rfl rfl rfl | exact cLss rfl rfl rfl | exact cLeq rfl rfl rfl | exact cGtr rfl rfl rfl | exact cGeq rfl rfl rfl | exact cEql rfl rfl rfl | exact cNeq rfl rfl rfl | exact cExtract rfl rfl rfl)
           rotate_left))
  intro a w3 hF hb hN
  have hBs := hB.size
  replace hB := hB.trans (hb.mono hB.size)
  dsimp only [ext, Option.getD] at hF
  repeat (first | with_reducible refine wp_seq ?_ | with_reducible refine nThen ?_ | with_reducible refine nBlk ?_ | with_reducible refine wp_skip ?_ | with_reducible refine wp_block ?_ | with_reducible refine wp_exit ?_ | with_reducible refine xThen ?_ | with_reducible refine xHere ?_ | with_reducible refine xFar (by decide) ?_ | with_reducible refine wp_ret ?_ | with_reducible refine rThen ?_ | with_reducible refine rBlk ?_)
  refine loop_ty (fun m a wr => ∃ (k : Nat) (u : Value) (S : List Nat), k + m = L.length ∧ Fr 19 [(0, Ty.ex v), (4, Ty.ex (.int .i64 (k : Int))), (3, Ty.ex u)] a wr ∧ Below w.heap.size w wr ∧ Seg wr 61 32 u k (flat (L.take k)) S ∧ ∀ y ∈ S, w.heap.size ≤ y) L.length ?_ ?_
  · exact ⟨0, _, [], by omega, hF.keep [0, 4, 3], hB, Seg.nil _ _ _, by simp⟩
  clear hF hB
  rintro m a wr ⟨k, u, S, hk, hF, hB, hseg, hS⟩
  repeat (first | with_reducible refine wp_seq ?_ | with_reducible refine nThen ?_ | with_reducible refine nBlk ?_ | with_reducible refine wp_skip ?_ | with_reducible refine wp_block ?_ | with_reducible refine wp_exit ?_ | with_reducible refine xThen ?_ | with_reducible refine xHere ?_ | with_reducible refine xFar (by decide) ?_ | with_reducible refine wp_ret ?_ | with_reducible refine rThen ?_ | with_reducible refine rBlk ?_)
  refine' reg_all hF ?_ mixed (by kernel_rfl) ?_
  rotate_left
  · repeat (first
        | exact Line.nil
        | (refine' Line.cons rfl (.no rfl rfl rfl rfl rfl rfl) ?_; rotate_left)
        | ((first | refine' Line.cons rfl (.run rfl rfl ?_) ?_ | refine' Line.cons rfl (.yes rfl rfl rfl rfl ?_) ?_)
           any_goals (first | exact cMove rfl rfl | exact cAssign rfl rfl | exact cNot rfl rfl | exact cLenH rfl (.l rfl ((Ty.sums 34 L).below hv hB)) (Ty.sl_isSl _ _ _) Try.underlying25 | exact cPickT rfl rfl rfl | exact cPickF rfl rfl rfl | exact cLss rfl rfl rfl | exact cLeq rfl rfl rfl | exact cGtr rfl rfl rfl | exact cGeq rfl rfl rfl | exact cEql rfl rfl rfl | exact cNeq rfl rfl rfl | exact cExtract rfl rfl rfl)
           rotate_left))
  intro a w4 hF hb hN
  have hBs := hB.size
  replace hB := hB.trans (hb.mono hB.size)
  dsimp only [ext, Option.getD] at hF
  repeat (first | with_reducible refine wp_seq ?_ | with_reducible refine nThen ?_ | with_reducible refine nBlk ?_ | with_reducible refine wp_skip ?_ | with_reducible refine wp_block ?_ | with_reducible refine wp_exit ?_ | with_reducible refine xThen ?_ | with_reducible refine xHere ?_ | with_reducible refine xFar (by decide) ?_ | with_reducible refine wp_ret ?_ | with_reducible refine rThen ?_ | with_reducible refine rBlk ?_)
  replace hseg := hseg.below hb
  refine cond_ty hF rfl (fun hlt => ?_) (fun hge => ?_)
  · have hlt : k < L.length := by simpa using hlt
    repeat (first | with_reducible refine wp_seq ?_ | with_reducible refine nThen ?_ | with_reducible refine nBlk ?_ | with_reducible refine wp_skip ?_ | with_reducible refine wp_block ?_ | with_reducible refine wp_exit ?_ | with_reducible refine xThen ?_ | with_reducible refine xHere ?_ | with_reducible refine xFar (by decide) ?_ | with_reducible refine wp_ret ?_ | with_reducible refine rThen ?_ | with_reducible refine rBlk ?_)
    refine' region_ty 6 mixed (by kernel_rfl) hF ?_ ?_
    rotate_left
    · simp only [List.take_succ_cons, List.take_zero]
      repeat (first
          | exact Line.nil
          | (refine' Line.cons rfl (.no rfl rfl rfl rfl rfl rfl) ?_; rotate_left)
          | ((first | refine' Line.cons rfl (.run rfl rfl ?_) ?_ | refine' Line.cons rfl (.yes rfl rfl rfl rfl ?_) ?_)
             any_goals (first | exact cMove rfl rfl | exact cAssign rfl rfl | exact cNot rfl rfl | exact cIndexSum rfl (.l rfl ((Ty.sums 34 L).below hv hB)) rfl Try.underlying25 sizeS hlt | exact cLoadSum rfl (.t rfl) Try.underlying34 sizeS | exact cBuildSums [L.getD k default] rfl (parts1v rfl rfl) Try.underlying58 infoR rfl | exact cPickT rfl rfl rfl | exact cPickF rfl rfl rfl | exact cLss rfl rfl rfl | exact cLeq rfl rfl rfl | exact cGtr rfl rfl rfl | exact cGeq rfl rfl rfl | exact cEql rfl rfl rfl | exact cNeq rfl rfl rfl | exact cExtract rfl rfl rfl)
             rotate_left))
    intro a w5 hF hb hN
    have hBs := hB.size
    replace hB := hB.trans (hb.mono hB.size)
    simp only [List.take_succ_cons, List.take_zero, List.drop_succ_cons, List.drop_zero] at hF hN ⊢
    dsimp only [ext, Option.getD] at hF
    replace hseg := hseg.below hb
    refine tlAppend (Δ := [(0, Ty.ex v), (4, Ty.ex (.int .i64 (k : Int)))]) hF rfl rfl rfl rfl Try.underlying58 infoR zero32_size rfl hseg (.t rfl) sl_news (flat_len _) flat_one' (by simp [maxLen]; omega) (by simp; omega) (hF.keep [0, 4]) rfl ?_
    intro a w6 u' S' hF hseg hk2 hS'
    replace hS' := own_next hB hS hS'
    replace hB := below_own hB hk2 hS
    refine' tlOp hF rfl rfl rfl ?_ ?_
    rotate_left
    · first | exact cMove rfl rfl | exact cAssign rfl rfl | exact cPickT rfl rfl rfl | exact cPickF rfl rfl rfl | exact cNot rfl rfl | exact cLss rfl rfl rfl | exact cLeq rfl rfl rfl | exact cGtr rfl rfl rfl | exact cGeq rfl rfl rfl | exact cEql rfl rfl rfl | exact cNeq rfl rfl rfl | exact cExtract rfl rfl rfl
    intro a w7 hF hb
    have hBs := hB.size
    replace hB := hB.trans (hb.mono hB.size)
    try (refine wpList_nil ?_)
    repeat (first | with_reducible refine wp_seq ?_ | with_reducible refine nThen ?_ | with_reducible refine nBlk ?_ | with_reducible refine wp_skip ?_ | with_reducible refine wp_block ?_ | with_reducible refine wp_exit ?_ | with_reducible refine xThen ?_ | with_reducible refine xHere ?_ | with_reducible refine xFar (by decide) ?_ | with_reducible refine wp_ret ?_ | with_reducible refine rThen ?_ | with_reducible refine rBlk ?_)
    replace hseg := hseg.below hb
    refine' reg_all hF ?_ mixed (by kernel_rfl) ?_
    rotate_left
    · repeat (first
          | exact Line.nil
          | (refine' Line.cons rfl (.no rfl rfl rfl rfl rfl rfl) ?_; rotate_left)
          | ((first | refine' Line.cons rfl (.run rfl rfl ?_) ?_ | refine' Line.cons rfl (.yes rfl rfl rfl rfl ?_) ?_)
             any_goals (first | exact cMove rfl rfl | exact cAssign rfl rfl | exact cNot rfl rfl | exact cAdd (r := ((k + 1 : Nat) : Int)) rfl rfl rfl (by omega) | exact cPickT rfl rfl rfl | exact cPickF rfl rfl rfl | exact cLss rfl rfl rfl | exact cLeq rfl rfl rfl | exact cGtr rfl rfl rfl | exact cGeq rfl rfl rfl | exact cEql rfl rfl rfl | exact cNeq rfl rfl rfl | exact cExtract rfl rfl rfl)
             rotate_left))
    intro a w8 hF hb hN
    have hBs := hB.size
    replace hB := hB.trans (hb.mono hB.size)
    dsimp only [ext, Option.getD] at hF
    repeat (first | with_reducible refine wp_seq ?_ | with_reducible refine nThen ?_ | with_reducible refine nBlk ?_ | with_reducible refine wp_skip ?_ | with_reducible refine wp_block ?_ | with_reducible refine wp_exit ?_ | with_reducible refine xThen ?_ | with_reducible refine xHere ?_ | with_reducible refine xFar (by decide) ?_ | with_reducible refine wp_ret ?_ | with_reducible refine rThen ?_ | with_reducible refine rBlk ?_)
    rw [flat_one, flat_snoc L hlt] at hseg
    exact ⟨m - 1, by omega, k + 1, u', S', by omega, hF.keep [0, 4, 3], hB, hseg.below hb, hS'⟩
  · have hge : ¬ k < L.length := by simpa using hge
    obtain rfl : k = L.length := by omega
    rw [List.take_length] at hseg
    repeat (first | with_reducible refine wp_seq ?_ | with_reducible refine nThen ?_ | with_reducible refine nBlk ?_ | with_reducible refine wp_skip ?_ | with_reducible refine wp_block ?_ | with_reducible refine wp_exit ?_ | with_reducible refine xThen ?_ | with_reducible refine xHere ?_ | with_reducible refine xFar (by decide) ?_ | with_reducible refine wp_ret ?_ | with_reducible refine rThen ?_ | with_reducible refine rBlk ?_)
    refine' reg_all hF ?_ mixed (by kernel_rfl) ?_
    rotate_left
    · repeat (first
          | exact Line.nil
          | (refine' Line.cons rfl (.no rfl rfl rfl rfl rfl rfl) ?_; rotate_left)
          | ((first | refine' Line.cons rfl (.run rfl rfl ?_) ?_ | refine' Line.cons rfl (.yes rfl rfl rfl rfl ?_) ?_)
             any_goals (first | exact cMove rfl rfl | exact cAssign rfl rfl | exact cNot rfl rfl | exact cPickT rfl rfl rfl | exact cPickF rfl rfl rfl | exact cLss rfl rfl rfl | exact cLeq rfl rfl rfl | exact cGtr rfl rfl rfl | exact cGeq rfl rfl rfl | exact cEql rfl rfl rfl | exact cNeq rfl rfl rfl | exact cExtract rfl rfl rfl)
             rotate_left))
    intro a w5 hF hb hN
    have hBs := hB.size
    replace hB := hB.trans (hb.mono hB.size)
    dsimp only [ext, Option.getD] at hF
    repeat (first | with_reducible refine wp_seq ?_ | with_reducible refine nThen ?_ | with_reducible refine nBlk ?_ | with_reducible refine wp_skip ?_ | with_reducible refine wp_block ?_ | with_reducible refine wp_exit ?_ | with_reducible refine xThen ?_ | with_reducible refine xHere ?_ | with_reducible refine xFar (by decide) ?_ | with_reducible refine wp_ret ?_ | with_reducible refine rThen ?_ | with_reducible refine rBlk ?_)
    refine ret1 hF rfl rfl fun z hz => ?_
    have hz : z = u := hz
    subst hz
    exact ⟨z, rfl, ⟨S, hseg.below hb, hS⟩, hB⟩
end Go.Proofs.Ytmlbkcpmgcjblaa

/- Layer 10: the walk of SetSays. -/
namespace Go.Proofs.Ytmlbkcpmgcjblaa
open Go.RowKit

theorem cEqlBool {P : Program} {w0 : World} {Γ : Ctx} {o : Oper} {t t2 : TypeId} {x y : Operand} {b c : Bool} (ho : o.op = .binOp .eql t x y t2) (hx : OpT Γ x (Ty.ex (.bool b))) (hy : OpT Γ y (Ty.ex (.bool c))) (h : P.underlying t = some .bool) : OpOk P w0 Γ o (Ty.ex (.bool (b == c))) :=
  cBin ho hx hy fun w => by simp [eqGuard, binOp, run_equal_bool w t b c h]
end Go.Proofs.Ytmlbkcpmgcjblaa
