/- Layer 14 by types: the document's Places. -/
import Derived.Test.YtofekkhhminkhaaDoorPlaceJ
namespace Go.Proofs.YtofekkhhminkhaaDoor
open Go.RowKit

theorem shrN (s k : Nat) : ((s : Nat) : Int).fdiv (2 ^ (((8 * k : Nat) : Int)).toNat) = ((s / 256 ^ k : Nat) : Int) := by
  have e : (2 : Nat) ^ (8 * k) = 256 ^ k := by rw [Nat.pow_mul]
  have e2 : ((2 : Int) ^ (8 * k)) = ((256 ^ k : Nat) : Int) := by rw [← e, Int.natCast_pow]; rfl
  rw [Int.toNat_natCast, Int.fdiv_eq_ediv_of_nonneg _ (Int.le_of_lt (Int.pow_pos (by decide))), e2, Int.natCast_ediv]
theorem cAllocV {P : Program} {w0 : World} {Γ : Ctx} {o : Oper} {t : TypeId} {z : Array Value} (ho : o.op = .alloc t) (hz : ∀ w : World, (Instr.alloc t true (.tuple #[])).run P w = .ok (.pointer (some ⟨w.heap.size, 0, none⟩)) (w.alloc (.cells z t))) : OpOk P w0 Γ o (Ty.var w0 t z) :=
  .new fun a w hb _ => ⟨_, _, ⟨w.heap.size, rfl, hb.size, Blk.new w _ _⟩, ((Keeps.refl [] w).alloc _).below, by unfold execOp; simp [ho, hz]⟩
theorem cNeqBool {P : Program} {w0 : World} {Γ : Ctx} {o : Oper} {t t2 : TypeId} {x y : Operand} {b c : Bool} (ho : o.op = .binOp .neq t x y t2) (hx : OpT Γ x (Ty.ex (.bool b))) (hy : OpT Γ y (Ty.ex (.bool c))) (h : P.underlying t = some .bool) : OpOk P w0 Γ o (Ty.ex (.bool (b != c))) :=
  cBin ho hx hy fun w => by simp [eqGuard, binOp, run_equal_bool w t b c h, bne]
theorem infoRS : (Tryd.prog.info? 32).map (fun i => (i.zero, i.size, i.bytes)) = some (some (.agg (u8s (List.replicate 32 0))), 32, 32) := by kernel_rfl
theorem zero_cells32 : (Value.agg (u8s (List.replicate 32 0))).cells.size = 32 := by show (u8s _).size = 32; rw [u8s_size]; rfl

set_option maxRecDepth 100000 in
set_option maxHeartbeats 2000000 in
theorem rplaces_ty (seed : Nat) (n : Int) (x : Sm) (hsd : seed < 18446744073709551616) : Fn3 Tryd.prog 16 (Ty.ex (.int .u64 (seed : Int))) (Ty.ex (.int .i64 n)) (Ty.ex (.agg (u8s x.l))) (Ty.sl 3 (placesN seed n x).length ((placesN seed n x).map ivn)) := by
  refine ⟨fun args w => by kernel_rfl, fun w v u q hv hu hq => ?_⟩
  have hg := goodCells_ty n
  by_cases hgn : goodN n = true
  rotate_left
  · have hgn : goodN n = false := by simpa using hgn
    have e : placesN seed n x = [] := by unfold placesN; rw [hgn]; rfl
    rw [e]
    rw [hgn] at hg
    refine enter_ty 55 [Ty.ex (.int .u64 (seed : Int)), Ty.ex (.int .i64 n), Ty.ex (.agg (u8s x.l))] Tryd.func16 rfl (by kernel_rfl) ⟨hv, hu, hq, trivial⟩ fun a hF => ?_
    have hB := Below.refl w.heap.size w
    repeat (first | with_reducible refine wp_seq ?_ | with_reducible refine nThen ?_ | with_reducible refine nBlk ?_ | with_reducible refine wp_skip ?_ | with_reducible refine wp_block ?_ | with_reducible refine wp_exit ?_ | with_reducible refine xThen ?_ | with_reducible refine xHere ?_ | with_reducible refine xFar (by decide) ?_ | with_reducible refine wp_ret ?_ | with_reducible refine rThen ?_ | with_reducible refine rBlk ?_)
    refine' reg_all hF ?_ mixed (by kernel_rfl) ?_
    rotate_left
    · repeat (first
          | exact Line.nil
          | (refine' Line.cons rfl (.no rfl rfl rfl rfl rfl rfl) ?_; rotate_left)
          | ((first | refine' Line.cons rfl (.run rfl rfl ?_) ?_ | refine' Line.cons rfl (.yes rfl rfl rfl rfl ?_) ?_)
             any_goals (first | exact cMove rfl rfl | exact cAssign rfl rfl | exact cNot rfl rfl | exact cBoxSum rfl rfl | exact cPickT rfl rfl rfl | exact cPickF rfl rfl rfl | exact cLss rfl rfl rfl | exact cLeq rfl rfl rfl | exact cGtr rfl rfl rfl | exact cGeq rfl rfl rfl | exact cEql rfl rfl rfl | exact cNeq rfl rfl rfl | exact cExtract rfl rfl rfl)
             rotate_left))
    intro a w1 hF hb hN
    have hBs := hB.size
    replace hB := hB.trans (hb.mono hB.size)
    dsimp only [ext, Option.getD] at hF
    repeat (first | with_reducible refine wp_seq ?_ | with_reducible refine nThen ?_ | with_reducible refine nBlk ?_ | with_reducible refine wp_skip ?_ | with_reducible refine wp_block ?_ | with_reducible refine wp_exit ?_ | with_reducible refine xThen ?_ | with_reducible refine xHere ?_ | with_reducible refine xFar (by decide) ?_ | with_reducible refine wp_ret ?_ | with_reducible refine rThen ?_ | with_reducible refine rBlk ?_)
    refine' reg_all hF ?_ mixed (by kernel_rfl) ?_
    rotate_left
    · repeat (first
          | exact Line.nil
          | (refine' Line.cons rfl (.no rfl rfl rfl rfl rfl rfl) ?_; rotate_left)
          | ((first | refine' Line.cons rfl (.run rfl rfl ?_) ?_ | refine' Line.cons rfl (.yes rfl rfl rfl rfl ?_) ?_)
             any_goals (first | exact cMove rfl rfl | exact cAssign rfl rfl | exact cNot rfl rfl | exact cCall1 rfl rfl hg | exact cPickT rfl rfl rfl | exact cPickF rfl rfl rfl | exact cLss rfl rfl rfl | exact cLeq rfl rfl rfl | exact cGtr rfl rfl rfl | exact cGeq rfl rfl rfl | exact cEql rfl rfl rfl | exact cNeq rfl rfl rfl | exact cExtract rfl rfl rfl)
             rotate_left))
    intro a w2 hF hb hN
    have hBs := hB.size
    replace hB := hB.trans (hb.mono hB.size)
    dsimp only [ext, Option.getD] at hF
    repeat (first | with_reducible refine wp_seq ?_ | with_reducible refine nThen ?_ | with_reducible refine nBlk ?_ | with_reducible refine wp_skip ?_ | with_reducible refine wp_block ?_ | with_reducible refine wp_exit ?_ | with_reducible refine xThen ?_ | with_reducible refine xHere ?_ | with_reducible refine xFar (by decide) ?_ | with_reducible refine wp_ret ?_ | with_reducible refine rThen ?_ | with_reducible refine rBlk ?_)
    refine cond_t hF rfl ?_
    repeat (first | with_reducible refine wp_seq ?_ | with_reducible refine nThen ?_ | with_reducible refine nBlk ?_ | with_reducible refine wp_skip ?_ | with_reducible refine wp_block ?_ | with_reducible refine wp_exit ?_ | with_reducible refine xThen ?_ | with_reducible refine xHere ?_ | with_reducible refine xFar (by decide) ?_ | with_reducible refine wp_ret ?_ | with_reducible refine rThen ?_ | with_reducible refine rBlk ?_)
    refine' reg_all hF ?_ mixed (by kernel_rfl) ?_
    rotate_left
    · repeat (first
          | exact Line.nil
          | (refine' Line.cons rfl (.no rfl rfl rfl rfl rfl rfl) ?_; rotate_left)
          | ((first | refine' Line.cons rfl (.run rfl rfl ?_) ?_ | refine' Line.cons rfl (.yes rfl rfl rfl rfl ?_) ?_)
             any_goals (first | exact cMove rfl rfl | exact cAssign rfl rfl | exact cNot rfl rfl | exact cPickT rfl rfl rfl | exact cPickF rfl rfl rfl | exact cLss rfl rfl rfl | exact cLeq rfl rfl rfl | exact cGtr rfl rfl rfl | exact cGeq rfl rfl rfl | exact cEql rfl rfl rfl | exact cNeq rfl rfl rfl | exact cExtract rfl rfl rfl)
             rotate_left))
    intro a w3 hF hb hN
    have hBs := hB.size
    replace hB := hB.trans (hb.mono hB.size)
    dsimp only [ext, Option.getD] at hF
    repeat (first | with_reducible refine wp_seq ?_ | with_reducible refine nThen ?_ | with_reducible refine nBlk ?_ | with_reducible refine wp_skip ?_ | with_reducible refine wp_block ?_ | with_reducible refine wp_exit ?_ | with_reducible refine xThen ?_ | with_reducible refine xHere ?_ | with_reducible refine xFar (by decide) ?_ | with_reducible refine wp_ret ?_ | with_reducible refine rThen ?_ | with_reducible refine rBlk ?_)
    refine ret1 hF rfl rfl fun z hz => ?_
    have hz : z = .slice none 0 0 := hz
    subst hz
    exact ⟨_, rfl, (Seg.nil w3 3 1).sl, hB⟩
  have e : placesN seed n x = plc (placeS seed x) (n.toNat / 3) 3 := by unfold placesN; rw [hgn]; rfl
  rw [e, plc_len]
  have hgd := of_decide_eq_true hgn
  rw [hgn] at hg
  obtain ⟨N, rfl⟩ : ∃ N : Nat, n = (N : Int) := ⟨n.toNat, by omega⟩
  rw [Int.toNat_natCast]
  have hO := r1of_ty ((80 :: leB seed 8) ++ x.l) (Ty.sl 5 41 ((80 :: leB seed 8).map bv ++ x.enc)) (by
    have h : ((80 :: leB seed 8) ++ x.l).length = 41 := by rw [List.length_append, x.len, List.length_cons, leB_len]
    rw [h, List.map_append]
    exact reads_sl _ _ _) (by
    intro y hy
    rcases List.mem_append.1 hy with hy | hy
    · rcases List.mem_cons.1 hy with rfl | hy
      · decide
      · exact leB_lt seed 8 y hy
    · exact x.lt y hy) (by rw [List.length_append, x.len, List.length_cons, leB_len]; decide)
  have hY : shaS ((80 :: leB seed 8) ++ x.l) = placeS seed x := rfl
  rw [hY] at hO
  generalize placeS seed x = Y at *
  clear hY e
  have heP : Enters Tryd.prog 34 := fun args w => by kernel_rfl
  refine enter_ty 55 [Ty.ex (.int .u64 (seed : Int)), Ty.ex (.int .i64 (N : Int)), Ty.ex (.agg (u8s x.l))] Tryd.func16 rfl (by kernel_rfl) ⟨hv, hu, hq, trivial⟩ fun a hF => ?_
  have hB := Below.refl w.heap.size w
  repeat (first | with_reducible refine wp_seq ?_ | with_reducible refine nThen ?_ | with_reducible refine nBlk ?_ | with_reducible refine wp_skip ?_ | with_reducible refine wp_block ?_ | with_reducible refine wp_exit ?_ | with_reducible refine xThen ?_ | with_reducible refine xHere ?_ | with_reducible refine xFar (by decide) ?_ | with_reducible refine wp_ret ?_ | with_reducible refine rThen ?_ | with_reducible refine rBlk ?_)
  refine' reg_all hF ?_ mixed (by kernel_rfl) ?_
  rotate_left
  · repeat (first
        | exact Line.nil
        | (refine' Line.cons rfl (.no rfl rfl rfl rfl rfl rfl) ?_; rotate_left)
        | ((first | refine' Line.cons rfl (.run rfl rfl ?_) ?_ | refine' Line.cons rfl (.yes rfl rfl rfl rfl ?_) ?_)
           any_goals (first | exact cMove rfl rfl | exact cAssign rfl rfl | exact cNot rfl rfl | exact cBoxSum rfl rfl | exact cPickT rfl rfl rfl | exact cPickF rfl rfl rfl | exact cLss rfl rfl rfl | exact cLeq rfl rfl rfl | exact cGtr rfl rfl rfl | exact cGeq rfl rfl rfl | exact cEql rfl rfl rfl | exact cNeq rfl rfl rfl | exact cExtract rfl rfl rfl)
           rotate_left))
  intro a w1 hF hb hN
  have hBs := hB.size
  replace hB := hB.trans (hb.mono hB.size)
  dsimp only [ext, Option.getD] at hF
  repeat (first | with_reducible refine wp_seq ?_ | with_reducible refine nThen ?_ | with_reducible refine nBlk ?_ | with_reducible refine wp_skip ?_ | with_reducible refine wp_block ?_ | with_reducible refine wp_exit ?_ | with_reducible refine xThen ?_ | with_reducible refine xHere ?_ | with_reducible refine xFar (by decide) ?_ | with_reducible refine wp_ret ?_ | with_reducible refine rThen ?_ | with_reducible refine rBlk ?_)
  refine' reg_all hF ?_ mixed (by kernel_rfl) ?_
  rotate_left
  · repeat (first
        | exact Line.nil
        | (refine' Line.cons rfl (.no rfl rfl rfl rfl rfl rfl) ?_; rotate_left)
        | ((first | refine' Line.cons rfl (.run rfl rfl ?_) ?_ | refine' Line.cons rfl (.yes rfl rfl rfl rfl ?_) ?_)
           any_goals (first | exact cMove rfl rfl | exact cAssign rfl rfl | exact cNot rfl rfl | exact cCall1 rfl rfl hg | exact cPickT rfl rfl rfl | exact cPickF rfl rfl rfl | exact cLss rfl rfl rfl | exact cLeq rfl rfl rfl | exact cGtr rfl rfl rfl | exact cGeq rfl rfl rfl | exact cEql rfl rfl rfl | exact cNeq rfl rfl rfl | exact cExtract rfl rfl rfl)
           rotate_left))
  intro a w2 hF hb hN
  have hBs := hB.size
  replace hB := hB.trans (hb.mono hB.size)
  dsimp only [ext, Option.getD] at hF
  repeat (first | with_reducible refine wp_seq ?_ | with_reducible refine nThen ?_ | with_reducible refine nBlk ?_ | with_reducible refine wp_skip ?_ | with_reducible refine wp_block ?_ | with_reducible refine wp_exit ?_ | with_reducible refine xThen ?_ | with_reducible refine xHere ?_ | with_reducible refine xFar (by decide) ?_ | with_reducible refine wp_ret ?_ | with_reducible refine rThen ?_ | with_reducible refine rBlk ?_)
  refine cond_f hF rfl ?_
  repeat (first | with_reducible refine wp_seq ?_ | with_reducible refine nThen ?_ | with_reducible refine nBlk ?_ | with_reducible refine wp_skip ?_ | with_reducible refine wp_block ?_ | with_reducible refine wp_exit ?_ | with_reducible refine xThen ?_ | with_reducible refine xHere ?_ | with_reducible refine xFar (by decide) ?_ | with_reducible refine wp_ret ?_ | with_reducible refine rThen ?_ | with_reducible refine rBlk ?_)
  refine' reg_all hF ?_ mixed (by kernel_rfl) ?_
  rotate_left
  · repeat (first
        | exact Line.nil
        | (refine' Line.cons rfl (.no rfl rfl rfl rfl rfl rfl) ?_; rotate_left)
        | ((first | refine' Line.cons rfl (.run rfl rfl ?_) ?_ | refine' Line.cons rfl (.yes rfl rfl rfl rfl ?_) ?_)
           any_goals (first | exact cMove rfl rfl | exact cAssign rfl rfl | exact cNot rfl rfl | exact cBuildB1 rfl rfl | exact cPickT rfl rfl rfl | exact cPickF rfl rfl rfl | exact cLss rfl rfl rfl | exact cLeq rfl rfl rfl | exact cGtr rfl rfl rfl | exact cGeq rfl rfl rfl | exact cEql rfl rfl rfl | exact cNeq rfl rfl rfl | exact cExtract rfl rfl rfl)
           rotate_left))
  intro a w3 hF hb hN
  have hBs := hB.size
  replace hB := hB.trans (hb.mono hB.size)
  dsimp only [ext, Option.getD] at hF
  repeat (first | with_reducible refine wp_seq ?_ | with_reducible refine nThen ?_ | with_reducible refine nBlk ?_ | with_reducible refine wp_skip ?_ | with_reducible refine wp_block ?_ | with_reducible refine wp_exit ?_ | with_reducible refine xThen ?_ | with_reducible refine xHere ?_ | with_reducible refine xFar (by decide) ?_ | with_reducible refine wp_ret ?_ | with_reducible refine rThen ?_ | with_reducible refine rBlk ?_)
  obtain ⟨u7, ⟨S7, hs7, hS7⟩, hF⟩ := hF.open (s := 7) rfl
  repeat (first | with_reducible refine wp_seq ?_ | with_reducible refine nThen ?_ | with_reducible refine nBlk ?_ | with_reducible refine wp_skip ?_ | with_reducible refine wp_block ?_ | with_reducible refine wp_exit ?_ | with_reducible refine xThen ?_ | with_reducible refine xHere ?_ | with_reducible refine xFar (by decide) ?_ | with_reducible refine wp_ret ?_ | with_reducible refine rThen ?_ | with_reducible refine rBlk ?_)
  refine' reg_all hF ?_ mixed (by kernel_rfl) ?_
  rotate_left
  · repeat (first
        | exact Line.nil
        | (refine' Line.cons rfl (.no rfl rfl rfl rfl rfl rfl) ?_; rotate_left)
        | ((first | refine' Line.cons rfl (.run rfl rfl ?_) ?_ | refine' Line.cons rfl (.yes rfl rfl rfl rfl ?_) ?_)
           any_goals (first | exact cMove rfl rfl | exact cAssign rfl rfl | exact cNot rfl rfl | exact cPickT rfl rfl rfl | exact cPickF rfl rfl rfl | exact cLss rfl rfl rfl | exact cLeq rfl rfl rfl | exact cGtr rfl rfl rfl | exact cGeq rfl rfl rfl | exact cEql rfl rfl rfl | exact cNeq rfl rfl rfl | exact cExtract rfl rfl rfl)
           rotate_left))
  intro a w4 hF hb hN
  have hBs := hB.size
  replace hB := hB.trans (hb.mono hB.size)
  dsimp only [ext, Option.getD] at hF
  repeat (first | with_reducible refine wp_seq ?_ | with_reducible refine nThen ?_ | with_reducible refine nBlk ?_ | with_reducible refine wp_skip ?_ | with_reducible refine wp_block ?_ | with_reducible refine wp_exit ?_ | with_reducible refine xThen ?_ | with_reducible refine xHere ?_ | with_reducible refine xFar (by decide) ?_ | with_reducible refine wp_ret ?_ | with_reducible refine rThen ?_ | with_reducible refine rBlk ?_)
  refine loop_ty (fun m a wr => ∃ (k : Nat) (u : Value) (S : List Nat), k + m = 8 ∧ Fr 55 [(0, Ty.ex (.int .u64 (seed : Int))), (1, Ty.ex (.int .i64 (N : Int))), (5, Ty.at_ 32 x.enc), (7, Ty.ex u), (8, Ty.ex (.int .i64 (k : Int)))] a wr ∧ Below w.heap.size w wr ∧ Seg wr 5 1 u (1 + k) ((80 :: leB seed k).map bv) S ∧ ∀ y ∈ S, w.heap.size ≤ y) 8 ?_ ?_
  · exact ⟨0, u7, S7, by omega, hF.keep [0, 1, 5, 7, 8], hB, hs7.below hb, fun y hy => by have := hS7 y hy; omega⟩
  clear hF hB
  rintro m a wr ⟨k, u, S, hk, hF, hB, hseg, hS⟩
  repeat (first | with_reducible refine wp_seq ?_ | with_reducible refine nThen ?_ | with_reducible refine nBlk ?_ | with_reducible refine wp_skip ?_ | with_reducible refine wp_block ?_ | with_reducible refine wp_exit ?_ | with_reducible refine xThen ?_ | with_reducible refine xHere ?_ | with_reducible refine xFar (by decide) ?_ | with_reducible refine wp_ret ?_ | with_reducible refine rThen ?_ | with_reducible refine rBlk ?_)
  refine' reg_all hF ?_ mixed (by kernel_rfl) ?_
  rotate_left
  · repeat (first
        | exact Line.nil
        | (refine' Line.cons rfl (.no rfl rfl rfl rfl rfl rfl) ?_; rotate_left)
        | ((first | refine' Line.cons rfl (.run rfl rfl ?_) ?_ | refine' Line.cons rfl (.yes rfl rfl rfl rfl ?_) ?_)
           any_goals (first | exact cMove rfl rfl | exact cAssign rfl rfl | exact cNot rfl rfl | exact cPickT rfl rfl rfl | exact cPickF rfl rfl rfl | exact cLss rfl rfl rfl | exact cLeq rfl rfl rfl | exact cGtr rfl rfl rfl | exact cGeq rfl rfl rfl | exact cEql rfl rfl rfl | exact cNeq rfl rfl rfl | exact cExtract rfl rfl rfl)
           rotate_left))
  intro a w5 hF hb hN
  have hBs := hB.size
  replace hB := hB.trans (hb.mono hB.size)
  dsimp only [ext, Option.getD] at hF
  repeat (first | with_reducible refine wp_seq ?_ | with_reducible refine nThen ?_ | with_reducible refine nBlk ?_ | with_reducible refine wp_skip ?_ | with_reducible refine wp_block ?_ | with_reducible refine wp_exit ?_ | with_reducible refine xThen ?_ | with_reducible refine xHere ?_ | with_reducible refine xFar (by decide) ?_ | with_reducible refine wp_ret ?_ | with_reducible refine rThen ?_ | with_reducible refine rBlk ?_)
  replace hseg := hseg.below hb
  refine cond_ty hF rfl (fun hlt => ?_) (fun hge => ?_)
  · have hlt : k < 8 := by have := of_decide_eq_true hlt; omega
    have hnx : (80 :: leB seed k).map bv ++ [bv (seed / 256 ^ k % 256)] = (80 :: leB seed (k + 1)).map bv := by rw [leB]; simp
    have hZl : seed / 256 ^ k < 18446744073709551616 := Nat.lt_of_le_of_lt (Nat.div_le_self _ _) hsd
    have hsh := shrN seed k
    generalize seed / 256 ^ k = Z at *
    repeat (first | with_reducible refine wp_seq ?_ | with_reducible refine nThen ?_ | with_reducible refine nBlk ?_ | with_reducible refine wp_skip ?_ | with_reducible refine wp_block ?_ | with_reducible refine wp_exit ?_ | with_reducible refine xThen ?_ | with_reducible refine xHere ?_ | with_reducible refine xFar (by decide) ?_ | with_reducible refine wp_ret ?_ | with_reducible refine rThen ?_ | with_reducible refine rBlk ?_)
    refine' region_ty 8 mixed (by kernel_rfl) hF ?_ ?_
    rotate_left
    · simp only [List.take_succ_cons, List.take_zero]
      repeat (first
          | exact Line.nil
          | (refine' Line.cons rfl (.no rfl rfl rfl rfl rfl rfl) ?_; rotate_left)
          | ((first | refine' Line.cons rfl (.run rfl rfl ?_) ?_ | refine' Line.cons rfl (.yes rfl rfl rfl rfl ?_) ?_)
             any_goals (first | exact cMove rfl rfl | exact cAssign rfl rfl | exact cNot rfl rfl | exact cMul (r := ((8 * k : Nat) : Int)) rfl rfl rfl (by omega) | exact cConvR (r := ((8 * k : Nat) : Int)) rfl rfl Tryd.underlying3 Tryd.underlying67 (by rw [IntKind.wrap_u64]; omega) | exact cShr (r := ((Z : Nat) : Int)) rfl rfl rfl ⟨by omega, by simp [IntKind.bits]; omega⟩ hsh | exact cConvR (r := ((Z % 256 : Nat) : Int)) rfl rfl Tryd.underlying22 Tryd.underlying5 (by simp [IntKind.wrap, IntKind.bits, IntKind.signed]) | exact cBuildV (vs := [bv (Z % 256)]) rfl (parts1v rfl rfl) Tryd.underlying66 infoU8 rfl (by simp [Value.cells, bv]) (by decide) (by simp [maxLen]) | exact cPickT rfl rfl rfl | exact cPickF rfl rfl rfl | exact cLss rfl rfl rfl | exact cLeq rfl rfl rfl | exact cGtr rfl rfl rfl | exact cGeq rfl rfl rfl | exact cEql rfl rfl rfl | exact cNeq rfl rfl rfl | exact cExtract rfl rfl rfl)
             rotate_left))
    intro a w6 hF hb hN
    have hBs := hB.size
    replace hB := hB.trans (hb.mono hB.size)
    simp only [List.take_succ_cons, List.take_zero, List.drop_succ_cons, List.drop_zero] at hF hN ⊢
    dsimp only [ext, Option.getD] at hF
    replace hseg := hseg.below hb
    refine tlAppend (Δ := [(0, Ty.ex (.int .u64 (seed : Int))), (1, Ty.ex (.int .i64 (N : Int))), (5, Ty.at_ 32 x.enc), (8, Ty.ex (.int .i64 (k : Int)))]) (n := 1 + k) (m := 1) (news := [bv (Z % 256)]) hF rfl rfl rfl rfl Tryd.underlying66 infoU8 rfl rfl hseg (.t rfl) sl_news rfl (by simp [bv, Value.oneCell']) (by simp [maxLen]; omega) (by omega) (hF.keep [0, 1, 5, 8]) rfl ?_
    intro a w7 u' S' hF hseg' hk7 hS'
    have hbS : ∀ y ∈ S', w.heap.size ≤ y := own_next hB hS hS'
    replace hB := below_own hB hk7 hS
    rw [hnx] at hseg'
    refine' tlOp hF rfl rfl rfl ?_ ?_
    rotate_left
    · first | exact cMove rfl rfl | exact cAssign rfl rfl | exact cPickT rfl rfl rfl | exact cPickF rfl rfl rfl | exact cNot rfl rfl | exact cLss rfl rfl rfl | exact cLeq rfl rfl rfl | exact cGtr rfl rfl rfl | exact cGeq rfl rfl rfl | exact cEql rfl rfl rfl | exact cNeq rfl rfl rfl | exact cExtract rfl rfl rfl
    intro a w8 hF hb
    have hBs := hB.size
    replace hB := hB.trans (hb.mono hB.size)
    try (refine wpList_nil ?_)
    repeat (first | with_reducible refine wp_seq ?_ | with_reducible refine nThen ?_ | with_reducible refine nBlk ?_ | with_reducible refine wp_skip ?_ | with_reducible refine wp_block ?_ | with_reducible refine wp_exit ?_ | with_reducible refine xThen ?_ | with_reducible refine xHere ?_ | with_reducible refine xFar (by decide) ?_ | with_reducible refine wp_ret ?_ | with_reducible refine rThen ?_ | with_reducible refine rBlk ?_)
    replace hseg' := hseg'.below hb
    refine' reg_all hF ?_ mixed (by kernel_rfl) ?_
    rotate_left
    · repeat (first
          | exact Line.nil
          | (refine' Line.cons rfl (.no rfl rfl rfl rfl rfl rfl) ?_; rotate_left)
          | ((first | refine' Line.cons rfl (.run rfl rfl ?_) ?_ | refine' Line.cons rfl (.yes rfl rfl rfl rfl ?_) ?_)
             any_goals (first | exact cMove rfl rfl | exact cAssign rfl rfl | exact cNot rfl rfl | exact cAdd (r := ((k + 1 : Nat) : Int)) rfl rfl rfl (by omega) | exact cPickT rfl rfl rfl | exact cPickF rfl rfl rfl | exact cLss rfl rfl rfl | exact cLeq rfl rfl rfl | exact cGtr rfl rfl rfl | exact cGeq rfl rfl rfl | exact cEql rfl rfl rfl | exact cNeq rfl rfl rfl | exact cExtract rfl rfl rfl)
             rotate_left))
    intro a w10 hF hb hN
    have hBs := hB.size
    replace hB := hB.trans (hb.mono hB.size)
    dsimp only [ext, Option.getD] at hF
    repeat (first | with_reducible refine wp_seq ?_ | with_reducible refine nThen ?_ | with_reducible refine nBlk ?_ | with_reducible refine wp_skip ?_ | with_reducible refine wp_block ?_ | with_reducible refine wp_exit ?_ | with_reducible refine xThen ?_ | with_reducible refine xHere ?_ | with_reducible refine xFar (by decide) ?_ | with_reducible refine wp_ret ?_ | with_reducible refine rThen ?_ | with_reducible refine rBlk ?_)
    exact ⟨m - 1, by omega, k + 1, u', S', by omega, hF.keep [0, 1, 5, 7, 8], hB, hseg'.below hb, hbS⟩
  have hge : ¬ k < 8 := by have := of_decide_eq_false hge; omega
  obtain rfl : k = 8 := by omega
  have hw5 : w.heap.size ≤ w5.heap.size := hB.size
  repeat (first | with_reducible refine wp_seq ?_ | with_reducible refine nThen ?_ | with_reducible refine nBlk ?_ | with_reducible refine wp_skip ?_ | with_reducible refine wp_block ?_ | with_reducible refine wp_exit ?_ | with_reducible refine xThen ?_ | with_reducible refine xHere ?_ | with_reducible refine xFar (by decide) ?_ | with_reducible refine wp_ret ?_ | with_reducible refine rThen ?_ | with_reducible refine rBlk ?_)
  refine wp_region_lit ?_
  refine' tlOp hF rfl rfl rfl ?_ ?_
  rotate_left
  · first | exact cMove rfl rfl | exact cAssign rfl rfl | exact cPickT rfl rfl rfl | exact cPickF rfl rfl rfl | exact cNot rfl rfl | exact cLss rfl rfl rfl | exact cLeq rfl rfl rfl | exact cGtr rfl rfl rfl | exact cGeq rfl rfl rfl | exact cEql rfl rfl rfl | exact cNeq rfl rfl rfl | exact cExtract rfl rfl rfl
  intro a w6 hF hb
  have hBs := hB.size
  replace hB := hB.trans (hb.mono hB.size)
  try (refine wpList_nil ?_)
  repeat (first | with_reducible refine wp_seq ?_ | with_reducible refine nThen ?_ | with_reducible refine nBlk ?_ | with_reducible refine wp_skip ?_ | with_reducible refine wp_block ?_ | with_reducible refine wp_exit ?_ | with_reducible refine xThen ?_ | with_reducible refine xHere ?_ | with_reducible refine xFar (by decide) ?_ | with_reducible refine wp_ret ?_ | with_reducible refine rThen ?_ | with_reducible refine rBlk ?_)
  replace hseg := hseg.below hb
  refine' tlOp hF rfl rfl rfl ?_ ?_
  rotate_left
  · first | exact cLoadSum rfl (.t rfl) Tryd.underlying32 sizeR | exact cMove rfl rfl | exact cAssign rfl rfl | exact cPickT rfl rfl rfl | exact cPickF rfl rfl rfl | exact cNot rfl rfl | exact cLss rfl rfl rfl | exact cLeq rfl rfl rfl | exact cGtr rfl rfl rfl | exact cGeq rfl rfl rfl | exact cEql rfl rfl rfl | exact cNeq rfl rfl rfl | exact cExtract rfl rfl rfl
  intro a w7 hF hb
  have hBs := hB.size
  replace hB := hB.trans (hb.mono hB.size)
  try (refine wpList_nil ?_)
  repeat (first | with_reducible refine wp_seq ?_ | with_reducible refine nThen ?_ | with_reducible refine nBlk ?_ | with_reducible refine wp_skip ?_ | with_reducible refine wp_block ?_ | with_reducible refine wp_exit ?_ | with_reducible refine xThen ?_ | with_reducible refine xHere ?_ | with_reducible refine xFar (by decide) ?_ | with_reducible refine wp_ret ?_ | with_reducible refine rThen ?_ | with_reducible refine rBlk ?_)
  replace hseg := hseg.below hb
  refine tlCall rfl rfl rfl (args := #[u, .agg (u8s x.l)]) ?_ heP (R := fun u' w' => (∃ S', Seg w' 5 1 u' 41 ((80 :: leB seed 8).map bv ++ x.enc) S') ∧ Keeps S w7 w') ?_ ?_
  · simp only [List.map_toArray, List.map_cons, List.map_nil, hF.getEx (s := 30) rfl, hF.getEx (s := 31) rfl]
  · refine (putsum_any x u 9 _ S w7 hseg (by decide)).mono fun e w' ⟨u', h1, ⟨S', h2, _⟩, h3⟩ => ⟨u', h1, ⟨S', h2⟩, h3⟩
  rintro u' w8 ⟨⟨S', hs8⟩, hk8⟩
  have hF := ((hF.keep [1]).free hk8 hseg.blocks rfl).put (d := 32) (by decide) (Below.refl _ _) (V := Ty.ex u') rfl
  replace hB := below_own hB hk8 hS
  have hu8 : (Ty.sl 5 41 ((80 :: leB seed 8).map bv ++ x.enc)).p w8 u' := hs8.sl
  refine' tlOp hF rfl rfl rfl ?_ ?_
  rotate_left
  · first | exact cCallH1 rfl (.l rfl hu8) hO | exact cMove rfl rfl | exact cAssign rfl rfl | exact cPickT rfl rfl rfl | exact cPickF rfl rfl rfl | exact cNot rfl rfl | exact cLss rfl rfl rfl | exact cLeq rfl rfl rfl | exact cGtr rfl rfl rfl | exact cGeq rfl rfl rfl | exact cEql rfl rfl rfl | exact cNeq rfl rfl rfl | exact cExtract rfl rfl rfl
  intro a w9 hF hb
  have hBs := hB.size
  replace hB := hB.trans (hb.mono hB.size)
  try (refine wpList_nil ?_)
  repeat (first | with_reducible refine wp_seq ?_ | with_reducible refine nThen ?_ | with_reducible refine nBlk ?_ | with_reducible refine wp_skip ?_ | with_reducible refine wp_block ?_ | with_reducible refine wp_exit ?_ | with_reducible refine xThen ?_ | with_reducible refine xHere ?_ | with_reducible refine xFar (by decide) ?_ | with_reducible refine wp_ret ?_ | with_reducible refine rThen ?_ | with_reducible refine rBlk ?_)
  have hw9 : w.heap.size ≤ w9.heap.size := hB.size
  refine' tlOp hF rfl rfl rfl ?_ ?_
  rotate_left
  · first | exact cAllocV rfl (run_alloc_i infoRS) | exact cMove rfl rfl | exact cAssign rfl rfl | exact cPickT rfl rfl rfl | exact cPickF rfl rfl rfl | exact cNot rfl rfl | exact cLss rfl rfl rfl | exact cLeq rfl rfl rfl | exact cGtr rfl rfl rfl | exact cGeq rfl rfl rfl | exact cEql rfl rfl rfl | exact cNeq rfl rfl rfl | exact cExtract rfl rfl rfl
  intro a w10 hF hb
  have hBs := hB.size
  replace hB := hB.trans (hb.mono hB.size)
  try (refine wpList_nil ?_)
  repeat (first | with_reducible refine wp_seq ?_ | with_reducible refine nThen ?_ | with_reducible refine nBlk ?_ | with_reducible refine wp_skip ?_ | with_reducible refine wp_block ?_ | with_reducible refine wp_exit ?_ | with_reducible refine xThen ?_ | with_reducible refine xHere ?_ | with_reducible refine xFar (by decide) ?_ | with_reducible refine wp_ret ?_ | with_reducible refine rThen ?_ | with_reducible refine rBlk ?_)
  obtain ⟨z, ⟨gx, rfl, hgx, hbx⟩, hF⟩ := hF.open (s := 9) rfl
  have hgx : w9.heap.size ≤ gx := hgx
  have hgx : w.heap.size ≤ gx := Nat.le_trans hw9 hgx
  refine tlStoreV (Δ := [(1, Ty.ex (.int .i64 (N : Int))), (9, Ty.ex (.pointer (some ⟨gx, 0, none⟩)))]) hF rfl rfl rfl rfl (hF.getEx (s := 33) rfl) hbx (by show (u8s _).size = (u8s _).size; rw [u8s_size, u8s_size, Sm.len]; rfl) (by show _ = some (u8s _).size; rw [u8s_size, Sm.len]; exact sizeR) (u8s_one _) (hF.keep [1, 9]) rfl ?_
  intro w11 hF hbx hkx
  refine wpList_nil ?_
  replace hB := below_own hB hkx (by intro y hy; simp only [List.mem_singleton] at hy; omega)
  have hax : (Ty.at_ 32 Y.enc).p w11 (.pointer (some ⟨gx, 0, none⟩)) := by
    have h := blk_at hbx
    rwa [show (Value.agg (u8s Y.l)).cells.toList = Y.enc from u8s_list _] at h
  replace hF := hF.as hF (s := 9) (σ := Ty.at_ 32 Y.enc) rfl (fun v hv => by have hv : v = .pointer (some ⟨gx, 0, none⟩) := hv; subst hv; exact hax)
  obtain ⟨p, hp⟩ : ∃ p, p = N / 3 := ⟨_, rfl⟩
  have hp1 : 1 ≤ p := by omega
  have hp2 : p ≤ 400 := by omega
  rw [← hp]
  repeat (first | with_reducible refine wp_seq ?_ | with_reducible refine nThen ?_ | with_reducible refine nBlk ?_ | with_reducible refine wp_skip ?_ | with_reducible refine wp_block ?_ | with_reducible refine wp_exit ?_ | with_reducible refine xThen ?_ | with_reducible refine xHere ?_ | with_reducible refine xFar (by decide) ?_ | with_reducible refine wp_ret ?_ | with_reducible refine rThen ?_ | with_reducible refine rBlk ?_)
  refine' reg_all hF ?_ mixed (by kernel_rfl) ?_
  rotate_left
  · repeat (first
        | exact Line.nil
        | (refine' Line.cons rfl (.no rfl rfl rfl rfl rfl rfl) ?_; rotate_left)
        | ((first | refine' Line.cons rfl (.run rfl rfl ?_) ?_ | refine' Line.cons rfl (.yes rfl rfl rfl rfl ?_) ?_)
           any_goals (first | exact cMove rfl rfl | exact cAssign rfl rfl | exact cNot rfl rfl | exact cPickT rfl rfl rfl | exact cPickF rfl rfl rfl | exact cLss rfl rfl rfl | exact cLeq rfl rfl rfl | exact cGtr rfl rfl rfl | exact cGeq rfl rfl rfl | exact cEql rfl rfl rfl | exact cNeq rfl rfl rfl | exact cExtract rfl rfl rfl)
           rotate_left))
  intro a w12 hF hb hN
  have hBs := hB.size
  replace hB := hB.trans (hb.mono hB.size)
  dsimp only [ext, Option.getD] at hF
  repeat (first | with_reducible refine wp_seq ?_ | with_reducible refine nThen ?_ | with_reducible refine nBlk ?_ | with_reducible refine wp_skip ?_ | with_reducible refine wp_block ?_ | with_reducible refine wp_exit ?_ | with_reducible refine xThen ?_ | with_reducible refine xHere ?_ | with_reducible refine xFar (by decide) ?_ | with_reducible refine wp_ret ?_ | with_reducible refine rThen ?_ | with_reducible refine rBlk ?_)
  refine' reg_all hF ?_ mixed (by kernel_rfl) ?_
  rotate_left
  · repeat (first
        | exact Line.nil
        | (refine' Line.cons rfl (.no rfl rfl rfl rfl rfl rfl) ?_; rotate_left)
        | ((first | refine' Line.cons rfl (.run rfl rfl ?_) ?_ | refine' Line.cons rfl (.yes rfl rfl rfl rfl ?_) ?_)
           any_goals (first | exact cMove rfl rfl | exact cAssign rfl rfl | exact cNot rfl rfl | exact cQuoI (n := 3) (r := p) rfl rfl rfl (by decide) hp.symm (by omega) | exact cPickT rfl rfl rfl | exact cPickF rfl rfl rfl | exact cLss rfl rfl rfl | exact cLeq rfl rfl rfl | exact cGtr rfl rfl rfl | exact cGeq rfl rfl rfl | exact cEql rfl rfl rfl | exact cNeq rfl rfl rfl | exact cExtract rfl rfl rfl)
           rotate_left))
  intro a w13 hF hb hN
  have hBs := hB.size
  replace hB := hB.trans (hb.mono hB.size)
  dsimp only [ext, Option.getD] at hF
  repeat (first | with_reducible refine wp_seq ?_ | with_reducible refine nThen ?_ | with_reducible refine nBlk ?_ | with_reducible refine wp_skip ?_ | with_reducible refine wp_block ?_ | with_reducible refine wp_exit ?_ | with_reducible refine xThen ?_ | with_reducible refine xHere ?_ | with_reducible refine xFar (by decide) ?_ | with_reducible refine wp_ret ?_ | with_reducible refine rThen ?_ | with_reducible refine rBlk ?_)
  refine' reg_all hF ?_ mixed (by kernel_rfl) ?_
  rotate_left
  · repeat (first
        | exact Line.nil
        | (refine' Line.cons rfl (.no rfl rfl rfl rfl rfl rfl) ?_; rotate_left)
        | ((first | refine' Line.cons rfl (.run rfl rfl ?_) ?_ | refine' Line.cons rfl (.yes rfl rfl rfl rfl ?_) ?_)
           any_goals (first | exact cMove rfl rfl | exact cAssign rfl rfl | exact cNot rfl rfl | exact cPickT rfl rfl rfl | exact cPickF rfl rfl rfl | exact cLss rfl rfl rfl | exact cLeq rfl rfl rfl | exact cGtr rfl rfl rfl | exact cGeq rfl rfl rfl | exact cEql rfl rfl rfl | exact cNeq rfl rfl rfl | exact cExtract rfl rfl rfl)
           rotate_left))
  intro a w14 hF hb hN
  have hBs := hB.size
  replace hB := hB.trans (hb.mono hB.size)
  dsimp only [ext, Option.getD] at hF
  repeat (first | with_reducible refine wp_seq ?_ | with_reducible refine nThen ?_ | with_reducible refine nBlk ?_ | with_reducible refine wp_skip ?_ | with_reducible refine wp_block ?_ | with_reducible refine wp_exit ?_ | with_reducible refine xThen ?_ | with_reducible refine xHere ?_ | with_reducible refine xFar (by decide) ?_ | with_reducible refine wp_ret ?_ | with_reducible refine rThen ?_ | with_reducible refine rBlk ?_)
  refine loop_ty (fun m a wr => ∃ (k : Nat) (u : Value) (S : List Nat), k + m = 3 ∧ Fr 55 [(9, Ty.at_ 32 Y.enc), (11, Ty.ex (.int .i64 (p : Int))), (10, Ty.ex u), (12, Ty.ex (.int .i64 (k : Int)))] a wr ∧ Below w.heap.size w wr ∧ Seg wr 3 1 u k ((plc Y p k).map ivn) S ∧ ∀ y ∈ S, w.heap.size ≤ y) 3 ?_ ?_
  · exact ⟨0, _, [], by omega, hF.keep [9, 11, 10, 12], hB, Seg.nil _ _ _, by simp⟩
  clear hF hB
  rintro m a wr ⟨k, u, S, hk, hF, hB, hseg, hS⟩
  repeat (first | with_reducible refine wp_seq ?_ | with_reducible refine nThen ?_ | with_reducible refine nBlk ?_ | with_reducible refine wp_skip ?_ | with_reducible refine wp_block ?_ | with_reducible refine wp_exit ?_ | with_reducible refine xThen ?_ | with_reducible refine xHere ?_ | with_reducible refine xFar (by decide) ?_ | with_reducible refine wp_ret ?_ | with_reducible refine rThen ?_ | with_reducible refine rBlk ?_)
  refine' reg_all hF ?_ mixed (by kernel_rfl) ?_
  rotate_left
  · repeat (first
        | exact Line.nil
        | (refine' Line.cons rfl (.no rfl rfl rfl rfl rfl rfl) ?_; rotate_left)
        | ((first | refine' Line.cons rfl (.run rfl rfl ?_) ?_ | refine' Line.cons rfl (.yes rfl rfl rfl rfl ?_) ?_)
           any_goals (first | exact cMove rfl rfl | exact cAssign rfl rfl | exact cNot rfl rfl | exact cPickT rfl rfl rfl | exact cPickF rfl rfl rfl | exact cLss rfl rfl rfl | exact cLeq rfl rfl rfl | exact cGtr rfl rfl rfl | exact cGeq rfl rfl rfl | exact cEql rfl rfl rfl | exact cNeq rfl rfl rfl | exact cExtract rfl rfl rfl)
           rotate_left))
  intro a w15 hF hb hN
  have hBs := hB.size
  replace hB := hB.trans (hb.mono hB.size)
  dsimp only [ext, Option.getD] at hF
  repeat (first | with_reducible refine wp_seq ?_ | with_reducible refine nThen ?_ | with_reducible refine nBlk ?_ | with_reducible refine wp_skip ?_ | with_reducible refine wp_block ?_ | with_reducible refine wp_exit ?_ | with_reducible refine xThen ?_ | with_reducible refine xHere ?_ | with_reducible refine xFar (by decide) ?_ | with_reducible refine wp_ret ?_ | with_reducible refine rThen ?_ | with_reducible refine rBlk ?_)
  replace hseg := hseg.below hb
  refine cond_ty hF rfl (fun hlt => ?_) (fun hge => ?_)
  · have hlt : k < 3 := by have := of_decide_eq_true hlt; omega
    have hW := rword_ty Y k (by omega)
    have hWl := word_lt Y k
    have hnx : (plc Y p k).map ivn ++ [ivn (k * p + wordF Y.l k 8 % p)] = (plc Y p (k + 1)).map ivn := by rw [plc]; simp
    have hm : wordF Y.l k 8 % p < p := Nat.mod_lt _ (by omega)
    have hkp : k * p ≤ 2 * p := Nat.mul_le_mul_right _ (by omega)
    generalize wordF Y.l k 8 = V at *
    generalize hM : V % p = M at *
    repeat (first | with_reducible refine wp_seq ?_ | with_reducible refine nThen ?_ | with_reducible refine nBlk ?_ | with_reducible refine wp_skip ?_ | with_reducible refine wp_block ?_ | with_reducible refine wp_exit ?_ | with_reducible refine xThen ?_ | with_reducible refine xHere ?_ | with_reducible refine xFar (by decide) ?_ | with_reducible refine wp_ret ?_ | with_reducible refine rThen ?_ | with_reducible refine rBlk ?_)
    refine' region_ty 13 mixed (by kernel_rfl) hF ?_ ?_
    rotate_left
    · simp only [List.take_succ_cons, List.take_zero]
      repeat (first
          | exact Line.nil
          | (refine' Line.cons rfl (.no rfl rfl rfl rfl rfl rfl) ?_; rotate_left)
          | ((first | refine' Line.cons rfl (.run rfl rfl ?_) ?_ | refine' Line.cons rfl (.yes rfl rfl rfl rfl ?_) ?_)
             any_goals (first | exact cMove rfl rfl | exact cAssign rfl rfl | exact cNot rfl rfl | exact cMul (r := ((k * p : Nat) : Int)) rfl rfl rfl ⟨by rw [Int.natCast_mul], by omega, by omega⟩ | exact cLoadSum rfl (.t rfl) Tryd.underlying32 sizeR | exact cCall2 rfl rfl rfl hW | exact cConvR (r := (p : Int)) rfl rfl Tryd.underlying3 Tryd.underlying22 (by rw [IntKind.wrap_u64]; omega) | exact cRemU (n := p) (r := M) rfl rfl rfl (by omega) hM | exact cConvR (r := (M : Int)) rfl rfl Tryd.underlying22 Tryd.underlying3 (IntWalk.i64_in _ (by omega)) | exact cAdd (r := ((k * p + M : Nat) : Int)) rfl rfl rfl ⟨by rw [Int.natCast_add], by omega, by omega⟩ | exact cBuildV (vs := [ivn (k * p + M)]) rfl (parts1v rfl rfl) Tryd.underlying25 infoInt rfl (by simp [Value.cells, ivn]) (by decide) (by simp [maxLen]) | exact cPickT rfl rfl rfl | exact cPickF rfl rfl rfl | exact cLss rfl rfl rfl | exact cLeq rfl rfl rfl | exact cGtr rfl rfl rfl | exact cGeq rfl rfl rfl | exact cEql rfl rfl rfl | exact cNeq rfl rfl rfl | exact cExtract rfl rfl rfl)
             rotate_left))
    intro a w16 hF hb hN
    have hBs := hB.size
    replace hB := hB.trans (hb.mono hB.size)
    simp only [List.take_succ_cons, List.take_zero, List.drop_succ_cons, List.drop_zero] at hF hN ⊢
    dsimp only [ext, Option.getD] at hF
    replace hseg := hseg.below hb
    refine tlAppend (Δ := [(9, Ty.at_ 32 Y.enc), (11, Ty.ex (.int .i64 (p : Int))), (12, Ty.ex (.int .i64 (k : Int)))]) (n := k) (m := 1) (news := [ivn (k * p + M)]) hF rfl rfl rfl rfl Tryd.underlying25 infoInt rfl rfl hseg (.t rfl) sl_news rfl (by simp [ivn, Value.oneCell']) (by simp [maxLen]; omega) (by omega) (hF.keep [9, 11, 12]) rfl ?_
    intro a w17 u' S' hF hseg' hk14 hS'
    have hbS : ∀ y ∈ S', w.heap.size ≤ y := own_next hB hS hS'
    replace hB := below_own hB hk14 hS
    rw [hnx] at hseg'
    refine' tlOp hF rfl rfl rfl ?_ ?_
    rotate_left
    · first | exact cMove rfl rfl | exact cAssign rfl rfl | exact cPickT rfl rfl rfl | exact cPickF rfl rfl rfl | exact cNot rfl rfl | exact cLss rfl rfl rfl | exact cLeq rfl rfl rfl | exact cGtr rfl rfl rfl | exact cGeq rfl rfl rfl | exact cEql rfl rfl rfl | exact cNeq rfl rfl rfl | exact cExtract rfl rfl rfl
    intro a w18 hF hb
    have hBs := hB.size
    replace hB := hB.trans (hb.mono hB.size)
    try (refine wpList_nil ?_)
    repeat (first | with_reducible refine wp_seq ?_ | with_reducible refine nThen ?_ | with_reducible refine nBlk ?_ | with_reducible refine wp_skip ?_ | with_reducible refine wp_block ?_ | with_reducible refine wp_exit ?_ | with_reducible refine xThen ?_ | with_reducible refine xHere ?_ | with_reducible refine xFar (by decide) ?_ | with_reducible refine wp_ret ?_ | with_reducible refine rThen ?_ | with_reducible refine rBlk ?_)
    replace hseg' := hseg'.below hb
    refine' reg_all hF ?_ mixed (by kernel_rfl) ?_
    rotate_left
    · repeat (first
          | exact Line.nil
          | (refine' Line.cons rfl (.no rfl rfl rfl rfl rfl rfl) ?_; rotate_left)
          | ((first | refine' Line.cons rfl (.run rfl rfl ?_) ?_ | refine' Line.cons rfl (.yes rfl rfl rfl rfl ?_) ?_)
             any_goals (first | exact cMove rfl rfl | exact cAssign rfl rfl | exact cNot rfl rfl | exact cAdd (r := ((k + 1 : Nat) : Int)) rfl rfl rfl (by omega) | exact cPickT rfl rfl rfl | exact cPickF rfl rfl rfl | exact cLss rfl rfl rfl | exact cLeq rfl rfl rfl | exact cGtr rfl rfl rfl | exact cGeq rfl rfl rfl | exact cEql rfl rfl rfl | exact cNeq rfl rfl rfl | exact cExtract rfl rfl rfl)
             rotate_left))
    intro a w19 hF hb hN
    have hBs := hB.size
    replace hB := hB.trans (hb.mono hB.size)
    dsimp only [ext, Option.getD] at hF
    repeat (first | with_reducible refine wp_seq ?_ | with_reducible refine nThen ?_ | with_reducible refine nBlk ?_ | with_reducible refine wp_skip ?_ | with_reducible refine wp_block ?_ | with_reducible refine wp_exit ?_ | with_reducible refine xThen ?_ | with_reducible refine xHere ?_ | with_reducible refine xFar (by decide) ?_ | with_reducible refine wp_ret ?_ | with_reducible refine rThen ?_ | with_reducible refine rBlk ?_)
    exact ⟨m - 1, by omega, k + 1, u', S', by omega, hF.keep [9, 11, 10, 12], hB, hseg'.below hb, hbS⟩
  have hge : ¬ k < 3 := by have := of_decide_eq_false hge; omega
  obtain rfl : k = 3 := by omega
  repeat (first | with_reducible refine wp_seq ?_ | with_reducible refine nThen ?_ | with_reducible refine nBlk ?_ | with_reducible refine wp_skip ?_ | with_reducible refine wp_block ?_ | with_reducible refine wp_exit ?_ | with_reducible refine xThen ?_ | with_reducible refine xHere ?_ | with_reducible refine xFar (by decide) ?_ | with_reducible refine wp_ret ?_ | with_reducible refine rThen ?_ | with_reducible refine rBlk ?_)
  refine' reg_all hF ?_ mixed (by kernel_rfl) ?_
  rotate_left
  · repeat (first
        | exact Line.nil
        | (refine' Line.cons rfl (.no rfl rfl rfl rfl rfl rfl) ?_; rotate_left)
        | ((first | refine' Line.cons rfl (.run rfl rfl ?_) ?_ | refine' Line.cons rfl (.yes rfl rfl rfl rfl ?_) ?_)
           any_goals (first | exact cMove rfl rfl | exact cAssign rfl rfl | exact cNot rfl rfl | exact cPickT rfl rfl rfl | exact cPickF rfl rfl rfl | exact cLss rfl rfl rfl | exact cLeq rfl rfl rfl | exact cGtr rfl rfl rfl | exact cGeq rfl rfl rfl | exact cEql rfl rfl rfl | exact cNeq rfl rfl rfl | exact cExtract rfl rfl rfl)
           rotate_left))
  intro a w16 hF hb hN
  have hBs := hB.size
  replace hB := hB.trans (hb.mono hB.size)
  dsimp only [ext, Option.getD] at hF
  repeat (first | with_reducible refine wp_seq ?_ | with_reducible refine nThen ?_ | with_reducible refine nBlk ?_ | with_reducible refine wp_skip ?_ | with_reducible refine wp_block ?_ | with_reducible refine wp_exit ?_ | with_reducible refine xThen ?_ | with_reducible refine xHere ?_ | with_reducible refine xFar (by decide) ?_ | with_reducible refine wp_ret ?_ | with_reducible refine rThen ?_ | with_reducible refine rBlk ?_)
  refine ret1 hF rfl rfl fun z hz => ?_
  have hz : z = u := hz
  subst hz
  exact ⟨z, rfl, (hseg.below hb).sl, hB⟩
end Go.Proofs.YtofekkhhminkhaaDoor
