/- Layer 10: the walk of SetKnown. -/
import Derived.Test.YtmlbkcpmgcjblaaSetO
namespace Go.Proofs.Ytmlbkcpmgcjblaa
open Go.RowKit

theorem cConvU8 {w0 : World} {Γ : Ctx} {o : Oper} {P : Program} {src dst : TypeId} {x : Operand} {n : Nat} {d : TypeDesc} (ho : o.op = .convert src dst x) (hx : OpT Γ x (Ty.ex (.int .i64 (n : Int)))) (hs : P.underlying src = some d) (hd : P.underlying dst = some (.int .u8)) : OpOk P w0 Γ o (Ty.ex (.int .u8 ((n % 256 : Nat) : Int))) :=
  cConvR ho hx hs hd (by simp [IntKind.wrap, IntKind.bits, IntKind.signed])
theorem build_s9 (w : World) : (Instr.build 34 #[(0, .int .u8 9)]).run Try.prog w = .ok (.agg (u8s s9.l)) w := by kernel_rfl
theorem build_13 (w : World) : (Instr.build 34 #[(0, .int .u8 1), (1, .int .u8 3)]).run Try.prog w = .ok (.agg (u8s (e2 1 3).l)) w := by kernel_rfl
theorem build_1255 (w : World) : (Instr.build 34 #[(0, .int .u8 1), (1, .int .u8 255)]).run Try.prog w = .ok (.agg (u8s (e2 1 255).l)) w := by kernel_rfl
theorem bad_not : goodL [s2, s1] = false := by decide
theorem s1_bytes : bv 1 :: List.replicate 31 (bv 0) = s1.l.map bv := by rfl
theorem setL_nil : setL ([] : List Sm) = [] := setL_self List.Pairwise.nil
theorem byL_one (x : Sm) : byL [x] = x.l := by simp [byL]
set_option maxRecDepth 100000 in
set_option maxHeartbeats 8000000 in
theorem lawSetKnown_any (W : World) : Calls Try.prog 9 #[] W fun e w' => e = .returned (.bool true) ∧ Below W.heap.size W w' := by
  refine enter_ty 118 [] Try.func9 rfl (by kernel_rfl) trivial fun a hF => ?_
  have hB := Below.refl W.heap.size W
  repeat (first | with_reducible refine wp_seq ?_ | with_reducible refine nThen ?_ | with_reducible refine nBlk ?_ | with_reducible refine wp_skip ?_ | with_reducible refine wp_block ?_ | with_reducible refine wp_exit ?_ | with_reducible refine xThen ?_ | with_reducible refine xHere ?_ | with_reducible refine xFar (by decide) ?_ | with_reducible refine wp_ret ?_ | with_reducible refine rThen ?_ | with_reducible refine rBlk ?_)
  refine' reg_all hF ?_ mixed (by kernel_rfl) ?_
  rotate_left
  · repeat (first
        | exact Line.nil
        | (refine' Line.cons rfl (.no rfl rfl rfl rfl rfl rfl) ?_; rotate_left)
        | ((first | refine' Line.cons rfl (.run rfl rfl ?_) ?_ | refine' Line.cons rfl (.yes rfl rfl rfl rfl ?_) ?_)
           any_goals (first | exact cMove rfl rfl | exact cAssign rfl rfl | exact cNot rfl rfl | exact cPickT rfl rfl rfl | exact cPickF rfl rfl rfl | exact cLss rfl rfl rfl | exact cLeq rfl rfl rfl | exact cGtr rfl rfl rfl | exact cGeq rfl rfl rfl | exact cEql rfl rfl rfl | exact cNeq rfl rfl rfl | exact cExtract rfl rfl rfl)
           rotate_left))
  intro a w1 hF hb hN
  have hBs := hB.size
  replace hB := hB.trans (hb.mono hB.size)
  dsimp only [ext, Option.getD] at hF
  repeat (first | with_reducible refine wp_seq ?_ | with_reducible refine nThen ?_ | with_reducible refine nBlk ?_ | with_reducible refine wp_skip ?_ | with_reducible refine wp_block ?_ | with_reducible refine wp_exit ?_ | with_reducible refine xThen ?_ | with_reducible refine xHere ?_ | with_reducible refine xFar (by decide) ?_ | with_reducible refine wp_ret ?_ | with_reducible refine rThen ?_ | with_reducible refine rBlk ?_)
  refine' reg_all hF ?_ mixed (by kernel_rfl) ?_
  rotate_left
  · repeat (first
        | exact Line.nil
        | (refine' Line.cons rfl (.no rfl rfl rfl rfl rfl rfl) ?_; rotate_left)
        | ((first | refine' Line.cons rfl (.run rfl rfl ?_) ?_ | refine' Line.cons rfl (.yes rfl rfl rfl rfl ?_) ?_)
           any_goals (first | exact cMove rfl rfl | exact cAssign rfl rfl | exact cNot rfl rfl | exact cCall0 rfl awake10_ty | exact cPickT rfl rfl rfl | exact cPickF rfl rfl rfl | exact cLss rfl rfl rfl | exact cLeq rfl rfl rfl | exact cGtr rfl rfl rfl | exact cGeq rfl rfl rfl | exact cEql rfl rfl rfl | exact cNeq rfl rfl rfl | exact cExtract rfl rfl rfl)
           rotate_left))
  intro a w2 hF hb hN
  have hBs := hB.size
  replace hB := hB.trans (hb.mono hB.size)
  dsimp only [ext, Option.getD] at hF
  repeat (first | with_reducible refine wp_seq ?_ | with_reducible refine nThen ?_ | with_reducible refine nBlk ?_ | with_reducible refine wp_skip ?_ | with_reducible refine wp_block ?_ | with_reducible refine wp_exit ?_ | with_reducible refine xThen ?_ | with_reducible refine xHere ?_ | with_reducible refine xFar (by decide) ?_ | with_reducible refine wp_ret ?_ | with_reducible refine rThen ?_ | with_reducible refine rBlk ?_)
  refine cond_f hF rfl ?_
  repeat (first | with_reducible refine wp_seq ?_ | with_reducible refine nThen ?_ | with_reducible refine nBlk ?_ | with_reducible refine wp_skip ?_ | with_reducible refine wp_block ?_ | with_reducible refine wp_exit ?_ | with_reducible refine xThen ?_ | with_reducible refine xHere ?_ | with_reducible refine xFar (by decide) ?_ | with_reducible refine wp_ret ?_ | with_reducible refine rThen ?_ | with_reducible refine rBlk ?_)
  refine' reg_all hF ?_ mixed (by kernel_rfl) ?_
  rotate_left
  · repeat (first
        | exact Line.nil
        | (refine' Line.cons rfl (.no rfl rfl rfl rfl rfl rfl) ?_; rotate_left)
        | ((first | refine' Line.cons rfl (.run rfl rfl ?_) ?_ | refine' Line.cons rfl (.yes rfl rfl rfl rfl ?_) ?_)
           any_goals (first | exact cMove rfl rfl | exact cAssign rfl rfl | exact cNot rfl rfl | exact cBuildC rfl build_s1 | exact cBuildC rfl build_s2 | exact cBuildSums [s2, s1] rfl (parts2v rfl rfl rfl) Try.underlying25 infoS rfl | exact cPickT rfl rfl rfl | exact cPickF rfl rfl rfl | exact cLss rfl rfl rfl | exact cLeq rfl rfl rfl | exact cGtr rfl rfl rfl | exact cGeq rfl rfl rfl | exact cEql rfl rfl rfl | exact cNeq rfl rfl rfl | exact cExtract rfl rfl rfl)
           rotate_left))
  intro a w3 hF hb hN
  have hBs := hB.size
  replace hB := hB.trans (hb.mono hB.size)
  dsimp only [ext, Option.getD] at hF
  repeat (first | with_reducible refine wp_seq ?_ | with_reducible refine nThen ?_ | with_reducible refine nBlk ?_ | with_reducible refine wp_skip ?_ | with_reducible refine wp_block ?_ | with_reducible refine wp_exit ?_ | with_reducible refine xThen ?_ | with_reducible refine xHere ?_ | with_reducible refine xFar (by decide) ?_ | with_reducible refine wp_ret ?_ | with_reducible refine rThen ?_ | with_reducible refine rBlk ?_)
  refine' reg_all hF ?_ mixed (by kernel_rfl) ?_
  rotate_left
  · repeat (first
        | exact Line.nil
        | (refine' Line.cons rfl (.no rfl rfl rfl rfl rfl rfl) ?_; rotate_left)
        | ((first | refine' Line.cons rfl (.run rfl rfl ?_) ?_ | refine' Line.cons rfl (.yes rfl rfl rfl rfl ?_) ?_)
           any_goals (first | exact cMove rfl rfl | exact cAssign rfl rfl | exact cNot rfl rfl | exact cPickT rfl rfl rfl | exact cPickF rfl rfl rfl | exact cLss rfl rfl rfl | exact cLeq rfl rfl rfl | exact cGtr rfl rfl rfl | exact cGeq rfl rfl rfl | exact cEql rfl rfl rfl | exact cNeq rfl rfl rfl | exact cExtract rfl rfl rfl)
           rotate_left))
  intro a w4 hF hb hN
  have hBs := hB.size
  replace hB := hB.trans (hb.mono hB.size)
  dsimp only [ext, Option.getD] at hF
  repeat (first | with_reducible refine wp_seq ?_ | with_reducible refine nThen ?_ | with_reducible refine nBlk ?_ | with_reducible refine wp_skip ?_ | with_reducible refine wp_block ?_ | with_reducible refine wp_exit ?_ | with_reducible refine xThen ?_ | with_reducible refine xHere ?_ | with_reducible refine xFar (by decide) ?_ | with_reducible refine wp_ret ?_ | with_reducible refine rThen ?_ | with_reducible refine rBlk ?_)
  refine' reg_all hF ?_ mixed (by kernel_rfl) ?_
  rotate_left
  · repeat (first
        | exact Line.nil
        | (refine' Line.cons rfl (.no rfl rfl rfl rfl rfl rfl) ?_; rotate_left)
        | ((first | refine' Line.cons rfl (.run rfl rfl ?_) ?_ | refine' Line.cons rfl (.yes rfl rfl rfl rfl ?_) ?_)
           any_goals (first | exact cMove rfl rfl | exact cAssign rfl rfl | exact cNot rfl rfl | exact cPickT rfl rfl rfl | exact cPickF rfl rfl rfl | exact cLss rfl rfl rfl | exact cLeq rfl rfl rfl | exact cGtr rfl rfl rfl | exact cGeq rfl rfl rfl | exact cEql rfl rfl rfl | exact cNeq rfl rfl rfl | exact cExtract rfl rfl rfl)
           rotate_left))
  intro a w5 hF hb hN
  have hBs := hB.size
  replace hB := hB.trans (hb.mono hB.size)
  dsimp only [ext, Option.getD] at hF
  repeat (first | with_reducible refine wp_seq ?_ | with_reducible refine nThen ?_ | with_reducible refine nBlk ?_ | with_reducible refine wp_skip ?_ | with_reducible refine wp_block ?_ | with_reducible refine wp_exit ?_ | with_reducible refine xThen ?_ | with_reducible refine xHere ?_ | with_reducible refine xFar (by decide) ?_ | with_reducible refine wp_ret ?_ | with_reducible refine rThen ?_ | with_reducible refine rBlk ?_)
  obtain ⟨v1, h1, hF⟩ := hF.open (s := 1) rfl
  have hB5 := hB
  refine loop_ty (fun m a wr => ∃ (k : Nat) (u : Value) (S : List Nat), k + m = 512 ∧ Fr 118 [(1, Ty.ex v1), (2, Ty.ex u), (3, Ty.ex (.int .i64 (k : Int)))] a wr ∧ Below w5.heap.size w5 wr ∧ Seg wr 34 32 u k (flat (fullN k)) S ∧ ∀ y ∈ S, w5.heap.size ≤ y) 512 ?_ ?_
  · exact ⟨0, _, [], by omega, hF.keep [1, 2, 3], Below.refl _ _, Seg.nil _ _ _, by simp⟩
  clear hF hB
  rintro m a wr ⟨k, u, S, hk, hF, hB, hseg, hS⟩
  repeat (first | with_reducible refine wp_seq ?_ | with_reducible refine nThen ?_ | with_reducible refine nBlk ?_ | with_reducible refine wp_skip ?_ | with_reducible refine wp_block ?_ | with_reducible refine wp_exit ?_ | with_reducible refine xThen ?_ | with_reducible refine xHere ?_ | with_reducible refine xFar (by decide) ?_ | with_reducible refine wp_ret ?_ | with_reducible refine rThen ?_ | with_reducible refine rBlk ?_)
  refine' reg_all hF ?_ mixed (by kernel_rfl) ?_
  rotate_left
  · repeat (first
        | exact Line.nil
        | (refine' Line.cons rfl (.no rfl rfl rfl rfl rfl rfl) ?_; rotate_left)
        | ((first | refine' Line.cons rfl (.run rfl rfl ?_) ?_ | refine' Line.cons rfl (.yes rfl rfl rfl rfl ?_) ?_)
           any_goals (first | exact cMove rfl rfl | exact cAssign rfl rfl | exact cNot rfl rfl | exact cPickT rfl rfl rfl | exact cPickF rfl rfl rfl | exact cLss rfl rfl rfl | exact cLeq rfl rfl rfl | exact cGtr rfl rfl rfl | exact cGeq rfl rfl rfl | exact cEql rfl rfl rfl | exact cNeq rfl rfl rfl | exact cExtract rfl rfl rfl)
           rotate_left))
  intro a w6 hF hb hN
  have hBs := hB.size
  replace hB := hB.trans (hb.mono hB.size)
  dsimp only [ext, Option.getD] at hF
  repeat (first | with_reducible refine wp_seq ?_ | with_reducible refine nThen ?_ | with_reducible refine nBlk ?_ | with_reducible refine wp_skip ?_ | with_reducible refine wp_block ?_ | with_reducible refine wp_exit ?_ | with_reducible refine xThen ?_ | with_reducible refine xHere ?_ | with_reducible refine xFar (by decide) ?_ | with_reducible refine wp_ret ?_ | with_reducible refine rThen ?_ | with_reducible refine rBlk ?_)
  replace hseg := hseg.below hb
  refine cond_ty hF rfl (fun hlt => ?_) (fun hge => ?_)
  · have hlt : k < 512 := by have := of_decide_eq_true hlt; omega
    repeat (first | with_reducible refine wp_seq ?_ | with_reducible refine nThen ?_ | with_reducible refine nBlk ?_ | with_reducible refine wp_skip ?_ | with_reducible refine wp_block ?_ | with_reducible refine wp_exit ?_ | with_reducible refine xThen ?_ | with_reducible refine xHere ?_ | with_reducible refine xFar (by decide) ?_ | with_reducible refine wp_ret ?_ | with_reducible refine rThen ?_ | with_reducible refine rBlk ?_)
    have hbx := build_e2 (k / 256) k
    have hsucc := fullN_succ k
    generalize e2 (k / 256) k = x at hbx hsucc
    refine' region_ty 8 mixed (by kernel_rfl) hF ?_ ?_
    rotate_left
    · simp only [List.take_succ_cons, List.take_zero]
      repeat (first
          | exact Line.nil
          | (refine' Line.cons rfl (.no rfl rfl rfl rfl rfl rfl) ?_; rotate_left)
          | ((first | refine' Line.cons rfl (.run rfl rfl ?_) ?_ | refine' Line.cons rfl (.yes rfl rfl rfl rfl ?_) ?_)
             any_goals (first | exact cMove rfl rfl | exact cAssign rfl rfl | exact cNot rfl rfl | exact cQuoN (r := k / 256) rfl rfl rfl (by decide) rfl (by omega) | exact cConvU8 rfl rfl Try.underlying3 Try.underlying5 | exact cBuild2v rfl rfl rfl hbx | exact cBuildSums [x] rfl (parts1v rfl rfl) Try.underlying24 infoS rfl | exact cPickT rfl rfl rfl | exact cPickF rfl rfl rfl | exact cLss rfl rfl rfl | exact cLeq rfl rfl rfl | exact cGtr rfl rfl rfl | exact cGeq rfl rfl rfl | exact cEql rfl rfl rfl | exact cNeq rfl rfl rfl | exact cExtract rfl rfl rfl)
             rotate_left))
    intro a w7 hF hb hN
    have hBs := hB.size
    replace hB := hB.trans (hb.mono hB.size)
    simp only [List.take_succ_cons, List.take_zero, List.drop_succ_cons, List.drop_zero] at hF hN ⊢
    dsimp only [ext, Option.getD] at hF
    replace hseg := hseg.below hb
    refine tlAppend (Δ := [(1, Ty.ex v1), (3, Ty.ex (.int .i64 (k : Int)))]) hF rfl rfl rfl rfl Try.underlying24 infoS zero32_size rfl hseg (.t rfl) sl_news (flat_len _) flat_one' (by simp [maxLen]; omega) (by simp; omega) (hF.keep [1, 3]) rfl ?_
    intro a w8 u' S' hF hseg' hk2 hS'
    have hbS : ∀ y ∈ S', w5.heap.size ≤ y := own_next hB hS hS'
    replace hB := below_own hB hk2 hS
    rw [← flat_append, ← hsucc] at hseg'
    refine' tlOp hF rfl rfl rfl ?_ ?_
    rotate_left
    · first | exact cMove rfl rfl | exact cAssign rfl rfl | exact cPickT rfl rfl rfl | exact cPickF rfl rfl rfl | exact cNot rfl rfl | exact cLss rfl rfl rfl | exact cLeq rfl rfl rfl | exact cGtr rfl rfl rfl | exact cGeq rfl rfl rfl | exact cEql rfl rfl rfl | exact cNeq rfl rfl rfl | exact cExtract rfl rfl rfl
    intro a w9 hF hb
    have hBs := hB.size
    replace hB := hB.trans (hb.mono hB.size)
    try (refine wpList_nil ?_)
    repeat (first | with_reducible refine wp_seq ?_ | with_reducible refine nThen ?_ | with_reducible refine nBlk ?_ | with_reducible refine wp_skip ?_ | with_reducible refine wp_block ?_ | with_reducible refine wp_exit ?_ | with_reducible refine xThen ?_ | with_reducible refine xHere ?_ | with_reducible refine xFar (by decide) ?_ | with_reducible refine wp_ret ?_ | with_reducible refine rThen ?_ | with_reducible refine rBlk ?_)
    replace hseg' := hseg'.below hb
    refine' reg_all hF ?_ mixed (by kernel_rfl) ?_
    rotate_left
    · repeat (first
          | exact Line.nil
          | (refine' Line.cons rfl (.no rfl rfl rfl rfl rfl rfl) ?_; rotate_left)
          | ((first | refine' Line.cons rfl (.run rfl rfl ?_) ?_ | refine' Line.cons rfl (.yes rfl rfl rfl rfl ?_) ?_)
             any_goals (first | exact cMove rfl rfl | exact cAssign rfl rfl | exact cNot rfl rfl | exact cAdd (r := ((k + 1 : Nat) : Int)) rfl rfl rfl (by omega) | exact cPickT rfl rfl rfl | exact cPickF rfl rfl rfl | exact cLss rfl rfl rfl | exact cLeq rfl rfl rfl | exact cGtr rfl rfl rfl | exact cGeq rfl rfl rfl | exact cEql rfl rfl rfl | exact cNeq rfl rfl rfl | exact cExtract rfl rfl rfl)
             rotate_left))
    intro a w10 hF hb hN
    have hBs := hB.size
    replace hB := hB.trans (hb.mono hB.size)
    dsimp only [ext, Option.getD] at hF
    repeat (first | with_reducible refine wp_seq ?_ | with_reducible refine nThen ?_ | with_reducible refine nBlk ?_ | with_reducible refine wp_skip ?_ | with_reducible refine wp_block ?_ | with_reducible refine wp_exit ?_ | with_reducible refine xThen ?_ | with_reducible refine xHere ?_ | with_reducible refine xFar (by decide) ?_ | with_reducible refine wp_ret ?_ | with_reducible refine rThen ?_ | with_reducible refine rBlk ?_)
    exact ⟨m - 1, by omega, k + 1, u', S', by omega, hF.keep [1, 2, 3], hB, hseg'.below hb, hbS⟩
  have hge : ¬ k < 512 := by have := of_decide_eq_false hge; omega
  obtain rfl : k = 512 := by omega
  have sF : srt (fullN 512) := full_srt
  have sM : srt (fullN 512 ++ [s9]) := more_srt
  have lF : (fullN 512).length = 512 := fullN_len 512
  have m13 : e2 1 3 ∈ fullN 512 := full_mem (i := 259) (by decide)
  have m255 : e2 1 255 ∈ fullN 512 := full_mem (i := 511) (by decide)
  have m9 : s9 ∉ fullN 512 := s9_not
  generalize fullN 512 = F at *
  have hFs : (Ty.sums 34 F).p w6 u := by
    have h := hseg.sl
    rw [← lF] at h
    exact h
  have oF := of_ty F (by omega)
  rw [setL_self sF] at oF
  have aM := add_ty F s9 (by omega)
  rw [setL_self sM] at aM
  have lM : (F ++ [s9]).length = 513 := by rw [List.length_append, lF]; rfl
  have mM : ∀ x, x ∈ F ++ [s9] ↔ x ∈ F ∨ x = s9 := fun x => by simp
  have gF := good_ty F (by omega)
  have hF1 := has_ty F (e2 1 255) (by omega)
  have hF2 := has_ty F s9 (by omega)
  rw [(goodL_iff F).2 ⟨sF, by omega⟩] at gF hF1 hF2
  rw [decide_eq_true m255] at hF1
  rw [decide_eq_false m9] at hF2
  have gM := good_ty (F ++ [s9]) (by omega)
  rw [goodL_srt sM, decide_eq_false (by omega)] at gM
  have a13 := add_ty F (e2 1 3) (by omega)
  rw [show setL (F ++ [e2 1 3]) = F from srt_ext (setL_srt _) sF fun x => by
    rw [setL_mem, List.mem_append, List.mem_singleton]
    exact ⟨fun h => h.elim id fun e => e ▸ m13, .inl⟩] at a13
  have tF := same_ty F F (by omega) (by omega)
  rw [sameL_true sF (by omega) rfl] at tF
  have bF := both_ty F (F ++ [s9]) (by omega) (by omega)
  rw [show bothL F (F ++ [s9]) = F from srt_ext (bothL_srt _ _) sF fun x => by
    rw [bothL_mem, mM]
    exact ⟨fun h => h.1, fun h => ⟨h, .inl h⟩⟩] at bF
  have uF := either_ty F (F ++ [s9]) (by omega) (by omega)
  rw [show setL (F ++ (F ++ [s9])) = F ++ [s9] from srt_ext (setL_srt _) sM fun x => by
    rw [setL_mem, List.mem_append, mM]
    exact ⟨fun h => h.elim .inl id, .inr⟩] at uF
  have gB := good_ty [s2, s1] (by simp)
  have hBd := has_ty [s2, s1] s1 (by simp)
  have tB := same_ty [s2, s1] [s2, s1] (by simp) (by simp)
  rw [bad_not] at gB hBd
  rw [show sameL [s2, s1] [s2, s1] = false by unfold sameL; rw [bad_not]; rfl] at tB
  have mB := minus_ty [s2, s1] [] (by simp) (by simp)
  rw [show minusL [s2, s1] [] = [s1, s2] from srt_ext (minusL_srt _ _) s12 fun x => by
    rw [minusL_mem]; simp [or_comm]] at mB
  have o12 := of_ty [s1, s2] (by simp)
  rw [setL_self s12] at o12
  have t12 := same_ty [s1, s2] [s1, s2] (by simp) (by simp)
  rw [sameL_true s12 (by simp) rfl] at t12
  have gN := good_ty [] (by simp)
  rw [(goodL_iff []).2 ⟨List.Pairwise.nil, by simp⟩] at gN
  have eN := tell_ty [] (by simp)
  rw [setL_nil, show byL [] = [] from rfl] at eN
  have o1 := of_ty [s1] (by simp)
  rw [setL_self (s_one _)] at o1
  have e1 := tell_ty [s1] (by simp)
  rw [setL_self (s_one _), byL_one] at e1
  have hSO := sumOf1_ty (e := 70) (τ := Ty.sl 5 32 (bv 1 :: List.replicate 31 (bv 0))) s1.l (by rw [s1_bytes, show s1.l.length = 32 from s1.len]; exact reads_sl _ _ _) s1.lt (by rw [s1.len]; decide)
  rw [show shaL s1.l = (shaS s1.l).l from rfl] at hSO
  have heOf : Enters Try.prog 48 := fun args w => by kernel_rfl
  have hS0 : ∀ W : World, Ret Try.prog 48 #[.slice none 0 0] W (Ty.ex (.agg (u8s (shaS []).l))) := fun W => Ret.of (Of_any none 0 0 0 0 [] W rfl (by omega) (fun h => absurd rfl h) (fun i l h => by simp at h) (by simp) (by omega))
  have hn0 : ∀ W : World, (Ty.sums 34 []).p W (.slice none 0 0) := fun W => (Seg.nil W 34 32).sl
  have hBd5 : (Ty.sums 34 [s2, s1]).p w6 v1 := (Ty.sums 34 [s2, s1]).below h1 hB
  generalize hTN : shaS [] = TN at *
  generalize hT1 : shaS s1.l = T1 at *
  repeat (first | with_reducible refine wp_seq ?_ | with_reducible refine nThen ?_ | with_reducible refine nBlk ?_ | with_reducible refine wp_skip ?_ | with_reducible refine wp_block ?_ | with_reducible refine wp_exit ?_ | with_reducible refine xThen ?_ | with_reducible refine xHere ?_ | with_reducible refine xFar (by decide) ?_ | with_reducible refine wp_ret ?_ | with_reducible refine rThen ?_ | with_reducible refine rBlk ?_)
  refine' reg_all hF ?_ mixed (by kernel_rfl) ?_
  rotate_left
  · repeat (first
        | exact Line.nil
        | (refine' Line.cons rfl (.no rfl rfl rfl rfl rfl rfl) ?_; rotate_left)
        | ((first | refine' Line.cons rfl (.run rfl rfl ?_) ?_ | refine' Line.cons rfl (.yes rfl rfl rfl rfl ?_) ?_)
           any_goals (first | exact cMove rfl rfl | exact cAssign rfl rfl | exact cNot rfl rfl | exact cCallS1 rfl (.l rfl hFs) oF | exact cPickT rfl rfl rfl | exact cPickF rfl rfl rfl | exact cLss rfl rfl rfl | exact cLeq rfl rfl rfl | exact cGtr rfl rfl rfl | exact cGeq rfl rfl rfl | exact cEql rfl rfl rfl | exact cNeq rfl rfl rfl | exact cExtract rfl rfl rfl)
           rotate_left))
  intro a w7 hF hb hN
  have hBs := hB.size
  replace hB := hB.trans (hb.mono hB.size)
  dsimp only [ext, Option.getD] at hF
  repeat (first | with_reducible refine wp_seq ?_ | with_reducible refine nThen ?_ | with_reducible refine nBlk ?_ | with_reducible refine wp_skip ?_ | with_reducible refine wp_block ?_ | with_reducible refine wp_exit ?_ | with_reducible refine xThen ?_ | with_reducible refine xHere ?_ | with_reducible refine xFar (by decide) ?_ | with_reducible refine wp_ret ?_ | with_reducible refine rThen ?_ | with_reducible refine rBlk ?_)
  have hb7 := hb
  refine' reg_all hF ?_ mixed (by kernel_rfl) ?_
  rotate_left
  · repeat (first
        | exact Line.nil
        | (refine' Line.cons rfl (.no rfl rfl rfl rfl rfl rfl) ?_; rotate_left)
        | ((first | refine' Line.cons rfl (.run rfl rfl ?_) ?_ | refine' Line.cons rfl (.yes rfl rfl rfl rfl ?_) ?_)
           any_goals (first | exact cMove rfl rfl | exact cAssign rfl rfl | exact cNot rfl rfl | exact cBuildC rfl build_s9 | exact cCallS2 rfl (Has.c (.t rfl) seg_sl) (.t rfl) aM | exact cPickT rfl rfl rfl | exact cPickF rfl rfl rfl | exact cLss rfl rfl rfl | exact cLeq rfl rfl rfl | exact cGtr rfl rfl rfl | exact cGeq rfl rfl rfl | exact cEql rfl rfl rfl | exact cNeq rfl rfl rfl | exact cExtract rfl rfl rfl)
           rotate_left))
  intro a w8 hF hb hN
  have hBs := hB.size
  replace hB := hB.trans (hb.mono hB.size)
  dsimp only [ext, Option.getD] at hF
  repeat (first | with_reducible refine wp_seq ?_ | with_reducible refine nThen ?_ | with_reducible refine nBlk ?_ | with_reducible refine wp_skip ?_ | with_reducible refine wp_block ?_ | with_reducible refine wp_exit ?_ | with_reducible refine xThen ?_ | with_reducible refine xHere ?_ | with_reducible refine xFar (by decide) ?_ | with_reducible refine wp_ret ?_ | with_reducible refine rThen ?_ | with_reducible refine rBlk ?_)
  have hBd8 := (Ty.sums 34 [s2, s1]).below ((Ty.sums 34 [s2, s1]).below hBd5 hb7) hb
  refine' reg_all hF ?_ mixed (by kernel_rfl) ?_
  rotate_left
  · repeat (first
        | exact Line.nil
        | (refine' Line.cons rfl (.no rfl rfl rfl rfl rfl rfl) ?_; rotate_left)
        | ((first | refine' Line.cons rfl (.run rfl rfl ?_) ?_ | refine' Line.cons rfl (.yes rfl rfl rfl rfl ?_) ?_)
           any_goals (first | exact cMove rfl rfl | exact cAssign rfl rfl | exact cNot rfl rfl | exact cBuildC rfl build_s1 | exact cBuildC rfl build_s2 | exact cBuildC rfl build_s9 | exact cBuild2v (v := .int .u8 1) (u := .int .u8 3) rfl rfl rfl build_13 | exact cBuild2v (v := .int .u8 1) (u := .int .u8 255) rfl rfl rfl build_1255 | exact OpOk.b (c := true) (cEql rfl rfl rfl) rfl | exact OpOk.b (c := true) (cEql rfl rfl rfl) (decide_eq_true (by rw [lM]; rfl)) | exact OpOk.b (c := true) (cEql rfl rfl rfl) (decide_eq_true (by rw [lF]; rfl)) | exact OpOk.b (c := true) (cEqlAgg rfl rfl rfl guardS (eqlS TN TN)) (decide_eq_true rfl) | exact OpOk.b (c := true) (cEqlAgg rfl rfl rfl guardS (eqlS T1 T1)) (decide_eq_true rfl) | exact cCallH1 rfl (.l rfl hBd8) gB | exact cCallH2 rfl (.l rfl hBd8) (.t rfl) hBd | exact cCallH2 rfl (.l rfl hBd8) (.l rfl hBd8) tB | exact cCallS2 rfl (.l rfl hBd8) (.l rfl (hn0 w8)) mB | exact cBuildSums [s1, s2] rfl (parts2v rfl rfl rfl) Try.underlying24 infoS rfl | exact cBuildSums [s1] rfl (parts1v rfl rfl) Try.underlying24 infoS rfl | exact cCallS1 rfl (.t rfl) o12 | exact cCallS1 rfl (.t rfl) o1 | exact cCallH2 rfl (Has.c (.t rfl) seg_sl) (Has.c (.t rfl) seg_sl) t12 | exact cCallH1 rfl (Has.c (.t rfl) seg_sl) gF | exact cCallH1 rfl (Has.c (.t rfl) seg_sl) gM | exact cLenH rfl (.t rfl) (Ty.seg_isSl _ _ _ _ _) Try.underlying25 | exact cCallS2 rfl (Has.c (.t rfl) seg_sl) (.t rfl) a13 | exact cCallH2 rfl (Has.c (.t rfl) seg_sl) (Has.c (.t rfl) seg_sl) tF | exact cCallH2 rfl (Has.c (.t rfl) seg_sl) (.t rfl) hF1 | exact cCallH2 rfl (Has.c (.t rfl) seg_sl) (.t rfl) hF2 | exact cCallH1 rfl (.l rfl (hn0 w8)) gN | exact cCallH1 rfl (.l rfl (hn0 w8)) eN | exact cCallX1 (f := 48) (v := .slice none 0 0) rfl rfl heOf (fun W _ => hS0 W) | exact cCallH1 rfl (Has.c (.t rfl) seg_sl) e1 | exact cBuildOne rfl | exact cAppend31 ⟨_, rfl, rfl⟩ | exact cBuildT (τs := [Ty.sl 5 32 (bv 1 :: List.replicate 31 (bv 0))]) rfl (partsT1 rfl (.t rfl) (Ty.sl_isSl _ _ _)) Try.underlying113 infoB rfl | exact cCall1 rfl rfl hSO | exact cCallS2 rfl (Has.c (.t rfl) seg_sl) (Has.c (.t rfl) seg_sl) bF | exact cCallS2 rfl (Has.c (.t rfl) seg_sl) (Has.c (.t rfl) seg_sl) uF | exact cPickT rfl rfl rfl | exact cPickF rfl rfl rfl | exact cLss rfl rfl rfl | exact cLeq rfl rfl rfl | exact cGtr rfl rfl rfl | exact cGeq rfl rfl rfl | exact cEql rfl rfl rfl | exact cNeq rfl rfl rfl | exact cExtract rfl rfl rfl)
           rotate_left))
  intro a w9 hF hb hN
  have hBs := hB.size
  replace hB := hB.trans (hb.mono hB.size)
  dsimp only [ext, Option.getD] at hF
  repeat (first | with_reducible refine wp_seq ?_ | with_reducible refine nThen ?_ | with_reducible refine nBlk ?_ | with_reducible refine wp_skip ?_ | with_reducible refine wp_block ?_ | with_reducible refine wp_exit ?_ | with_reducible refine xThen ?_ | with_reducible refine xHere ?_ | with_reducible refine xFar (by decide) ?_ | with_reducible refine wp_ret ?_ | with_reducible refine rThen ?_ | with_reducible refine rBlk ?_)
  refine ret1 hF rfl rfl fun z hz => ?_
  exact ⟨by rw [show z = .bool true from hz], hB5.trans (hB.mono hB5.size)⟩
end Go.Proofs.Ytmlbkcpmgcjblaa
