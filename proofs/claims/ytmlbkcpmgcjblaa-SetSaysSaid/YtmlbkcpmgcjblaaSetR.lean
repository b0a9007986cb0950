/- Layer 10 by types: the document's Of. -/
import Derived.Test.YtmlbkcpmgcjblaaSetP
import Derived.Test.YtmlbkcpmgcjblaaTyO
namespace Go.Proofs.Ytmlbkcpmgcjblaa
open Go.RowKit

/-- One more, laid where it belongs. -/
theorem ins_same {s : List Sm} {x : Sm} {k : Nat} (hk : k ≤ s.length) (h1 : 0 < k) (h2 : s.getD (k - 1) default = x) (D : List Sm) (hs : s = setL D) : s = setL (D ++ [x]) := by
  subst hs
  refine srt_ext (setL_srt _) (setL_srt _) fun z => ?_
  rw [setL_mem, setL_mem, List.mem_append, List.mem_singleton]
  constructor
  · exact .inl
  · rintro (h | h)
    · exact h
    · rw [h, ← h2, ← setL_mem D]
      exact mem_get.2 ⟨k - 1, by omega, rfl⟩
theorem ins_new {s : List Sm} {x : Sm} {k : Nat} (hk : k ≤ s.length) (hhi : ∀ j, k ≤ j → j < s.length → 0 < cmpL (s.getD j default).l x.l) (hlo : k = 0 ∨ ¬ 0 < cmpL (s.getD (k - 1) default).l x.l) (hne : k = 0 ∨ ¬ s.getD (k - 1) default = x) (D : List Sm) (hs : s = setL D) : s.take k ++ [x] ++ s.drop k = setL (D ++ [x]) := by
  subst hs
  have hsr := setL_srt D
  have hlt : ∀ y ∈ (setL D).take k, cmpL y.l x.l < 0 := by
    intro y hy
    obtain ⟨j, hj, rfl⟩ := mem_get.1 hy
    rw [List.length_take] at hj
    have e : ((setL D).take k).getD j default = (setL D).getD j default := by
      simp only [List.getD, List.getElem?_take]
      rw [if_pos (by omega)]
    rw [e]
    have hk0 : ¬ k = 0 := by omega
    have a1 := hlo.resolve_left hk0
    have a2 := hne.resolve_left hk0
    have a3 : ¬ cmpL ((setL D).getD (k - 1) default).l x.l = 0 := fun h => a2 (cmp_zero.1 h)
    by_cases hjk : j = k - 1
    · subst hjk; omega
    · have a4 := lt_get hsr (i := j) (j := k - 1) (by omega) (by omega)
      exact cmp_lt_trans (Int.le_of_lt a4) (by omega) (.inl a4)
  have hgt : ∀ y ∈ (setL D).drop k, cmpL x.l y.l < 0 := by
    intro y hy
    obtain ⟨j, hj, rfl⟩ := mem_get.1 hy
    rw [List.length_drop] at hj
    rw [getD_drop]
    have a1 := hhi (k + j) (by omega) (by omega)
    have := cmpL_swap ((setL D).getD (k + j) default).l x.l
    omega
  refine srt_ext ?_ (setL_srt _) fun z => ?_
  · rw [List.append_assoc]
    refine List.pairwise_append.2 ⟨List.Pairwise.sublist (List.take_sublist _ _) hsr, List.pairwise_cons.2 ⟨hgt, List.Pairwise.sublist (List.drop_sublist _ _) hsr⟩, fun a ha b hb => ?_⟩
    rcases List.mem_cons.1 hb with rfl | hb
    · exact hlt a ha
    · have h1 := hlt a ha
      have h2 := hgt b hb
      exact cmp_lt_trans (by omega) (by omega) (.inl h1)
  · rw [setL_mem, List.mem_append, List.mem_append, List.mem_append, List.mem_singleton, ← setL_mem D z]
    constructor
    · rintro ((h | h) | h)
      · exact .inl (List.mem_of_mem_take h)
      · exact .inr h
      · exact .inl (List.mem_of_mem_drop h)
    · rintro (h | h)
      · rw [← List.take_append_drop k (setL D), List.mem_append] at h
        rcases h with h | h
        · exact .inl (.inl h)
        · exact .inr h
      · exact .inl (.inr h)
theorem infoR1 : (Try.prog.info? 61).map (fun i => (i.zero, i.size, i.bytes)) = some (some (.agg (u8s (List.replicate 32 0))), 32, 32) := by kernel_rfl
theorem flat_l1 (x : Sm) : (([.agg (u8s x.l)] : List Value).map fun v => v.cells.toList).flatten = flat [x] := flat_cells [x]
theorem oBuildSum1 {P : Program} {w0 : World} {Γ : Ctx} {o : Oper} {t e : TypeId} {z : Value} {bytes : Nat} {x : Sm} {y : Operand} (ho : o.op = .buildSlice t 1 #[(0, y)]) (hy : OpT Γ y (Ty.ex (.agg (u8s x.l)))) (hu : P.underlying t = some (.slice e)) (hi : (P.info? e).map (fun i => (i.zero, i.size, i.bytes)) = some (some z, 32, bytes)) : OpO P w0 Γ o (OTy.seg w0 e 32 1 (flat [x])) := by
  have h := oBuild (P := P) (w0 := w0) (Γ := Γ) (vs := [.agg (u8s x.l)]) ho (parts1v ho hy) hu hi rfl (cells_sums [x]) (by decide) (by simp [maxLen])
  rwa [flat_l1] at h
theorem seg_news {w0 w : World} {e : TypeId} {sz m : Nat} {news : List Value} : ∀ u, (Ty.seg w0 e sz m news).p w u → ∃ A c, u = .slice A m c ∧ (A = none → m = 0) ∧ Rd w A news := fun u h => sl_news u (seg_sl _ _ h)
set_option maxRecDepth 100000 in
set_option maxHeartbeats 4000000 in
theorem r10of_ty (D : List Sm) (hD : D.length ≤ 1000000) : FnSeg1 Try.prog 52 (Ty.sums 61 D) 61 32 (setL D).length (flat (setL D)) := by
  refine ⟨fun args w => by kernel_rfl, fun w v hv => ?_⟩
  refine enter_ty 61 [Ty.ex v] Try.func52 rfl (by kernel_rfl) ⟨rfl, trivial⟩ fun a hF => ?_
  have hB := Below.refl w.heap.size w
  let TD := Ty.sums 61 D
  repeat (first | with_reducible refine wp_seq ?_ | with_reducible refine nThen ?_ | with_reducible refine nBlk ?_ | with_reducible refine wp_skip ?_ | with_reducible refine wp_block ?_ | with_reducible refine wp_exit ?_ | with_reducible refine xThen ?_ | with_reducible refine xHere ?_ | with_reducible refine xFar (by decide) ?_ | with_reducible refine wp_ret ?_ | with_reducible refine rThen ?_ | with_reducible refine rBlk ?_)
  refine' reg_all hF ?_ mixed (by kernel_rfl) ?_
  rotate_left
  · repeat (first
        | exact Line.nil
        | (refine' Line.cons rfl (.no rfl rfl rfl rfl rfl rfl) ?_; rotate_left)
        | ((first | refine' Line.cons rfl (.run rfl rfl ?_) ?_ | refine' Line.cons rfl (.yes rfl rfl rfl rfl ?_) ?_)
           any_goals (first | exact cMove rfl rfl | exact cAssign rfl rfl | exact cNot rfl rfl | exact cPickT rfl rfl rfl | exact cPickF rfl rfl rfl | exact cLss rfl rfl rfl | exact cLeq rfl rfl rfl | exact cGtr rfl rfl rfl | exact cGeq rfl rfl rfl | exact cEql rfl rfl rfl | exact cNeq rfl rfl rfl | exact cExtract rfl rfl rfl)
           rotate_left))
  intro a w1 hF hb hN
  have hBs := hB.size
  replace hB := hB.trans (hb.mono hB.size)
  dsimp only [ext, Option.getD] at hF
  repeat (first | with_reducible refine wp_seq ?_ | with_reducible refine nThen ?_ | with_reducible refine nBlk ?_ | with_reducible refine wp_skip ?_ | with_reducible refine wp_block ?_ | with_reducible refine wp_exit ?_ | with_reducible refine xThen ?_ | with_reducible refine xHere ?_ | with_reducible refine xFar (by decide) ?_ | with_reducible refine wp_ret ?_ | with_reducible refine rThen ?_ | with_reducible refine rBlk ?_)
  refine' reg_all hF ?_ mixed (by kernel_rfl) ?_
  rotate_left
  · repeat (first
        | exact Line.nil
        | (refine' Line.cons rfl (.no rfl rfl rfl rfl rfl rfl) ?_; rotate_left)
        | ((first | refine' Line.cons rfl (.run rfl rfl ?_) ?_ | refine' Line.cons rfl (.yes rfl rfl rfl rfl ?_) ?_)
           any_goals (first | exact cMove rfl rfl | exact cAssign rfl rfl | exact cNot rfl rfl | exact cPickT rfl rfl rfl | exact cPickF rfl rfl rfl | exact cLss rfl rfl rfl | exact cLeq rfl rfl rfl | exact cGtr rfl rfl rfl | exact cGeq rfl rfl rfl | exact cEql rfl rfl rfl | exact cNeq rfl rfl rfl | exact cExtract rfl rfl rfl)
           rotate_left))
  intro a w2 hF hb hN
  have hBs := hB.size
  replace hB := hB.trans (hb.mono hB.size)
  dsimp only [ext, Option.getD] at hF
  repeat (first | with_reducible refine wp_seq ?_ | with_reducible refine nThen ?_ | with_reducible refine nBlk ?_ | with_reducible refine wp_skip ?_ | with_reducible refine wp_block ?_ | with_reducible refine wp_exit ?_ | with_reducible refine xThen ?_ | with_reducible refine xHere ?_ | with_reducible refine xFar (by decide) ?_ | with_reducible refine wp_ret ?_ | with_reducible refine rThen ?_ | with_reducible refine rBlk ?_)
  refine' reg_all hF ?_ mixed (by kernel_rfl) ?_
  rotate_left
  · repeat (first
        | exact Line.nil
        | (refine' Line.cons rfl (.no rfl rfl rfl rfl rfl rfl) ?_; rotate_left)
        | ((first | refine' Line.cons rfl (.run rfl rfl ?_) ?_ | refine' Line.cons rfl (.yes rfl rfl rfl rfl ?_) ?_)
           any_goals (first | exact cMove rfl rfl | exact cAssign rfl rfl | exact cNot rfl rfl | exact cPickT rfl rfl rfl | exact cPickF rfl rfl rfl | exact cLss rfl rfl rfl | exact cLeq rfl rfl rfl | exact cGtr rfl rfl rfl | exact cGeq rfl rfl rfl | exact cEql rfl rfl rfl | exact cNeq rfl rfl rfl | exact cExtract rfl rfl rfl)
           rotate_left))
  intro a w3 hF hb hN
  have hBs := hB.size
  replace hB := hB.trans (hb.mono hB.size)
  dsimp only [ext, Option.getD] at hF
  repeat (first | with_reducible refine wp_seq ?_ | with_reducible refine nThen ?_ | with_reducible refine nBlk ?_ | with_reducible refine wp_skip ?_ | with_reducible refine wp_block ?_ | with_reducible refine wp_exit ?_ | with_reducible refine xThen ?_ | with_reducible refine xHere ?_ | with_reducible refine xFar (by decide) ?_ | with_reducible refine wp_ret ?_ | with_reducible refine rThen ?_ | with_reducible refine rBlk ?_)
  refine loop_ty (fun m a wr => ∃ (i : Nat) (u : Value) (S : List Nat), i + m = D.length ∧ Fr 61 [(0, Ty.ex v), (3, Ty.ex u), (4, Ty.ex (.int .i64 (i : Int)))] a wr ∧ Below w.heap.size w wr ∧ Seg wr 61 32 u (setL (D.take i)).length (flat (setL (D.take i))) S ∧ ∀ y ∈ S, w.heap.size ≤ y) D.length ?_ ?_
  · exact ⟨0, _, [], by omega, hF.keep [0, 3, 4], hB, Seg.nil _ _ _, by simp⟩
  clear hF hB
  rintro m a wr ⟨i, u, S, hi, hF, hB, hseg, hS⟩
  have hvr := TD.below hv hB
  repeat (first | with_reducible refine wp_seq ?_ | with_reducible refine nThen ?_ | with_reducible refine nBlk ?_ | with_reducible refine wp_skip ?_ | with_reducible refine wp_block ?_ | with_reducible refine wp_exit ?_ | with_reducible refine xThen ?_ | with_reducible refine xHere ?_ | with_reducible refine xFar (by decide) ?_ | with_reducible refine wp_ret ?_ | with_reducible refine rThen ?_ | with_reducible refine rBlk ?_)
  refine' reg_all hF ?_ mixed (by kernel_rfl) ?_
  rotate_left
  · repeat (first
        | exact Line.nil
        | (refine' Line.cons rfl (.no rfl rfl rfl rfl rfl rfl) ?_; rotate_left)
        | ((first | refine' Line.cons rfl (.run rfl rfl ?_) ?_ | refine' Line.cons rfl (.yes rfl rfl rfl rfl ?_) ?_)
           any_goals (first | exact cMove rfl rfl | exact cAssign rfl rfl | exact cNot rfl rfl | exact cLenH rfl (.l rfl hvr) (Ty.sl_isSl _ _ _) Try.underlying57 | exact cPickT rfl rfl rfl | exact cPickF rfl rfl rfl | exact cLss rfl rfl rfl | exact cLeq rfl rfl rfl | exact cGtr rfl rfl rfl | exact cGeq rfl rfl rfl | exact cEql rfl rfl rfl | exact cNeq rfl rfl rfl | exact cExtract rfl rfl rfl)
           rotate_left))
  intro a w4 hF hb hN
  have hBs := hB.size
  replace hB := hB.trans (hb.mono hB.size)
  dsimp only [ext, Option.getD] at hF
  repeat (first | with_reducible refine wp_seq ?_ | with_reducible refine nThen ?_ | with_reducible refine nBlk ?_ | with_reducible refine wp_skip ?_ | with_reducible refine wp_block ?_ | with_reducible refine wp_exit ?_ | with_reducible refine xThen ?_ | with_reducible refine xHere ?_ | with_reducible refine xFar (by decide) ?_ | with_reducible refine wp_ret ?_ | with_reducible refine rThen ?_ | with_reducible refine rBlk ?_)
  replace hseg := hseg.below hb
  replace hvr := TD.below hvr hb
  refine cond_ty hF rfl (fun hlt => ?_) (fun hge => ?_)
  rotate_left
  · have hge : ¬ i < D.length := by have := of_decide_eq_false hge; omega
    obtain rfl : i = D.length := by omega
    rw [List.take_length] at hseg
    repeat (first | with_reducible refine wp_seq ?_ | with_reducible refine nThen ?_ | with_reducible refine nBlk ?_ | with_reducible refine wp_skip ?_ | with_reducible refine wp_block ?_ | with_reducible refine wp_exit ?_ | with_reducible refine xThen ?_ | with_reducible refine xHere ?_ | with_reducible refine xFar (by decide) ?_ | with_reducible refine wp_ret ?_ | with_reducible refine rThen ?_ | with_reducible refine rBlk ?_)
    refine' reg_all hF ?_ mixed (by kernel_rfl) ?_
    rotate_left
    · repeat (first
          | exact Line.nil
          | (refine' Line.cons rfl (.no rfl rfl rfl rfl rfl rfl) ?_; rotate_left)
          | ((first | refine' Line.cons rfl (.run rfl rfl ?_) ?_ | refine' Line.cons rfl (.yes rfl rfl rfl rfl ?_) ?_)
             any_goals (first | exact cMove rfl rfl | exact cAssign rfl rfl | exact cNot rfl rfl | exact cPickT rfl rfl rfl | exact cPickF rfl rfl rfl | exact cLss rfl rfl rfl | exact cLeq rfl rfl rfl | exact cGtr rfl rfl rfl | exact cGeq rfl rfl rfl | exact cEql rfl rfl rfl | exact cNeq rfl rfl rfl | exact cExtract rfl rfl rfl)
             rotate_left))
    intro a w5 hF hb hN
    have hBs := hB.size
    replace hB := hB.trans (hb.mono hB.size)
    dsimp only [ext, Option.getD] at hF
    repeat (first | with_reducible refine wp_seq ?_ | with_reducible refine nThen ?_ | with_reducible refine nBlk ?_ | with_reducible refine wp_skip ?_ | with_reducible refine wp_block ?_ | with_reducible refine wp_exit ?_ | with_reducible refine xThen ?_ | with_reducible refine xHere ?_ | with_reducible refine xFar (by decide) ?_ | with_reducible refine wp_ret ?_ | with_reducible refine rThen ?_ | with_reducible refine rBlk ?_)
    refine ret1 hF rfl rfl fun z hz => ?_
    have hz : z = u := hz
    subst hz
    exact ⟨z, rfl, ⟨S, hseg.below hb, hS⟩, hB⟩
  have hlt : i < D.length := by have := of_decide_eq_true hlt; omega
  have htk : D.take (i + 1) = D.take i ++ [D.getD i default] := take_snoc' D hlt
  obtain ⟨s, hs⟩ : ∃ s, s = setL (D.take i) := ⟨_, rfl⟩
  obtain ⟨x, hx⟩ : ∃ x, x = D.getD i default := ⟨_, rfl⟩
  have hsl : s.length ≤ 1000000 := by rw [hs]; exact Nat.le_trans (setL_len _) (by rw [List.length_take]; omega)
  rw [← hs] at hseg
  rw [← hx] at htk
  obtain ⟨A, c, rfl, hnc, hcm, hrd, _, hAn⟩ := hseg.form
  obtain ⟨Av, cv, rfl, hvn, hvc, hvA⟩ := hvr.form
  obtain ⟨gv, ov, rfl, hel⟩ := SlP.elem hvr (k := i * 32) (by rw [flat_len]; omega)
  have hxe : (Ty.at_ 61 x.enc).p w4 (.pointer (some ⟨gv, ov + i * 32, none⟩)) := by
    have h := hel (i * 32)
    rw [flat_at D hlt, ← hx] at h
    obtain ⟨g, off, cs, fr, h1, h2, h3⟩ := h
    exact ⟨g, off, cs, fr, h1, h2, fun j u hu => h3 j u (by rw [List.getElem?_append_left (List.getElem?_eq_some_iff.1 hu).1]; exact hu)⟩
  have hss : (Ty.sums 61 s).p w4 (.slice A s.length c) := hseg.sl
  repeat (first | with_reducible refine wp_seq ?_ | with_reducible refine nThen ?_ | with_reducible refine nBlk ?_ | with_reducible refine wp_skip ?_ | with_reducible refine wp_block ?_ | with_reducible refine wp_exit ?_ | with_reducible refine xThen ?_ | with_reducible refine xHere ?_ | with_reducible refine xFar (by decide) ?_ | with_reducible refine wp_ret ?_ | with_reducible refine rThen ?_ | with_reducible refine rBlk ?_)
  refine' reg_all hF ?_ mixed (by kernel_rfl) ?_
  rotate_left
  · repeat (first
        | exact Line.nil
        | (refine' Line.cons rfl (.no rfl rfl rfl rfl rfl rfl) ?_; rotate_left)
        | ((first | refine' Line.cons rfl (.run rfl rfl ?_) ?_ | refine' Line.cons rfl (.yes rfl rfl rfl rfl ?_) ?_)
           any_goals (first | exact cMove rfl rfl | exact cAssign rfl rfl | exact cNot rfl rfl | exact cLenEx rfl rfl Try.underlying58 | exact cPickT rfl rfl rfl | exact cPickF rfl rfl rfl | exact cLss rfl rfl rfl | exact cLeq rfl rfl rfl | exact cGtr rfl rfl rfl | exact cGeq rfl rfl rfl | exact cEql rfl rfl rfl | exact cNeq rfl rfl rfl | exact cExtract rfl rfl rfl)
           rotate_left))
  intro a w5 hF hb hN
  have hBs := hB.size
  replace hB := hB.trans (hb.mono hB.size)
  dsimp only [ext, Option.getD] at hF
  repeat (first | with_reducible refine wp_seq ?_ | with_reducible refine nThen ?_ | with_reducible refine nBlk ?_ | with_reducible refine wp_skip ?_ | with_reducible refine wp_block ?_ | with_reducible refine wp_exit ?_ | with_reducible refine xThen ?_ | with_reducible refine xHere ?_ | with_reducible refine xFar (by decide) ?_ | with_reducible refine wp_ret ?_ | with_reducible refine rThen ?_ | with_reducible refine rBlk ?_)
  replace hseg := hseg.below hb
  replace hvr := TD.below hvr hb
  replace hxe := (Ty.at_ 61 x.enc).below hxe hb
  refine wp_mono (Q := fun e a wr => e = .exit 2 ∧ ∃ k : Nat, k ≤ s.length ∧ Fr 61 [(0, Ty.ex (.slice (some ⟨gv, ov, none⟩) D.length cv)), (3, Ty.ex (.slice A s.length c)), (4, Ty.ex (.int .i64 (i : Int))), (5, Ty.ex (.int .i64 (k : Int)))] a wr ∧ Below w.heap.size w wr ∧ Seg wr 61 32 (.slice A s.length c) s.length (flat s) S ∧ TD.p wr (.slice (some ⟨gv, ov, none⟩) D.length cv) ∧ (Ty.at_ 61 x.enc).p wr (.pointer (some ⟨gv, ov + i * 32, none⟩)) ∧ (∀ j, k ≤ j → j < s.length → 0 < cmpL (s.getD j default).l x.l) ∧ (k = 0 ∨ ¬ 0 < cmpL (s.getD (k - 1) default).l x.l)) ?_ ?_
  · refine loop_ty (fun m a wr => ∃ k : Nat, k = m ∧ k ≤ s.length ∧ Fr 61 [(0, Ty.ex (.slice (some ⟨gv, ov, none⟩) D.length cv)), (3, Ty.ex (.slice A s.length c)), (4, Ty.ex (.int .i64 (i : Int))), (5, Ty.ex (.int .i64 (k : Int)))] a wr ∧ Below w.heap.size w wr ∧ Seg wr 61 32 (.slice A s.length c) s.length (flat s) S ∧ TD.p wr (.slice (some ⟨gv, ov, none⟩) D.length cv) ∧ (Ty.at_ 61 x.enc).p wr (.pointer (some ⟨gv, ov + i * 32, none⟩)) ∧ ∀ j, k ≤ j → j < s.length → 0 < cmpL (s.getD j default).l x.l) s.length ?_ ?_
    · exact ⟨s.length, rfl, Nat.le_refl _, hF.keep [0, 3, 4, 5], hB, hseg, hvr, hxe, fun j hj hj2 => by omega⟩
    clear hF hB hb hBs hseg hvr hxe hss hel hrd hv
    rintro m a wr ⟨k, rfl, hk, hF, hB, hseg, hvr, hxr, hhi⟩
    have hsr : (Ty.sums 61 s).p wr (.slice A s.length c) := hseg.sl
    repeat (first | with_reducible refine wp_seq ?_ | with_reducible refine nThen ?_ | with_reducible refine nBlk ?_ | with_reducible refine wp_skip ?_ | with_reducible refine wp_block ?_ | with_reducible refine wp_exit ?_ | with_reducible refine xThen ?_ | with_reducible refine xHere ?_ | with_reducible refine xFar (by decide) ?_ | with_reducible refine wp_ret ?_ | with_reducible refine rThen ?_ | with_reducible refine rBlk ?_)
    by_cases hk0 : k = 0
    · subst hk0
      refine' reg_all hF ?_ mixed (by kernel_rfl) ?_
      rotate_left
      · repeat (first
            | exact Line.nil
            | (refine' Line.cons rfl (.no rfl rfl rfl rfl rfl rfl) ?_; rotate_left)
            | ((first | refine' Line.cons rfl (.run rfl rfl ?_) ?_ | refine' Line.cons rfl (.yes rfl rfl rfl rfl ?_) ?_)
               any_goals (first | exact cMove rfl rfl | exact cAssign rfl rfl | exact cNot rfl rfl | exact OpOk.b (c := false) (cGtr rfl rfl rfl) rfl | exact cPickT rfl rfl rfl | exact cPickF rfl rfl rfl | exact cLss rfl rfl rfl | exact cLeq rfl rfl rfl | exact cGtr rfl rfl rfl | exact cGeq rfl rfl rfl | exact cEql rfl rfl rfl | exact cNeq rfl rfl rfl | exact cExtract rfl rfl rfl)
               rotate_left))
      intro a w5 hF hb hN
      have hBs := hB.size
      replace hB := hB.trans (hb.mono hB.size)
      dsimp only [ext, Option.getD] at hF
      repeat (first | with_reducible refine wp_seq ?_ | with_reducible refine nThen ?_ | with_reducible refine nBlk ?_ | with_reducible refine wp_skip ?_ | with_reducible refine wp_block ?_ | with_reducible refine wp_exit ?_ | with_reducible refine xThen ?_ | with_reducible refine xHere ?_ | with_reducible refine xFar (by decide) ?_ | with_reducible refine wp_ret ?_ | with_reducible refine rThen ?_ | with_reducible refine rBlk ?_)
      refine cond_f hF rfl ?_
      repeat (first | with_reducible refine wp_seq ?_ | with_reducible refine nThen ?_ | with_reducible refine nBlk ?_ | with_reducible refine wp_skip ?_ | with_reducible refine wp_block ?_ | with_reducible refine wp_exit ?_ | with_reducible refine xThen ?_ | with_reducible refine xHere ?_ | with_reducible refine xFar (by decide) ?_ | with_reducible refine wp_ret ?_ | with_reducible refine rThen ?_ | with_reducible refine rBlk ?_)
      exact ⟨rfl, 0, hk, hF.keep [0, 3, 4, 5], hB, hseg.below hb, TD.below hvr hb, (Ty.at_ 61 x.enc).below hxr hb, hhi, .inl rfl⟩
    · refine' reg_all hF ?_ mixed (by kernel_rfl) ?_
      rotate_left
      · repeat (first
            | exact Line.nil
            | (refine' Line.cons rfl (.no rfl rfl rfl rfl rfl rfl) ?_; rotate_left)
            | ((first | refine' Line.cons rfl (.run rfl rfl ?_) ?_ | refine' Line.cons rfl (.yes rfl rfl rfl rfl ?_) ?_)
               any_goals (first | exact cMove rfl rfl | exact cAssign rfl rfl | exact cNot rfl rfl | exact OpOk.b (c := true) (cGtr rfl rfl rfl) (decide_eq_true (by omega)) | exact cSub (r := ((k - 1 : Nat) : Int)) rfl rfl rfl (by omega) | exact cIndexEx (k := i) (sz := 32) rfl rfl rfl Try.underlying57 sizeR hlt | exact cIndexSum (k := k - 1) rfl (.l rfl hsr) rfl Try.underlying58 sizeR (by omega) | exact cLoadSum rfl (.l rfl hxr) Try.underlying61 sizeR | exact cLoadSum rfl (.t rfl) Try.underlying61 sizeR | exact cCall2 rfl rfl rfl (r1cmp_ty _ _) | exact cPickT rfl rfl rfl | exact cPickF rfl rfl rfl | exact cLss rfl rfl rfl | exact cLeq rfl rfl rfl | exact cGtr rfl rfl rfl | exact cGeq rfl rfl rfl | exact cEql rfl rfl rfl | exact cNeq rfl rfl rfl | exact cExtract rfl rfl rfl)
               rotate_left))
      intro a w5 hF hb hN
      have hBs := hB.size
      replace hB := hB.trans (hb.mono hB.size)
      dsimp only [ext, Option.getD] at hF
      repeat (first | with_reducible refine wp_seq ?_ | with_reducible refine nThen ?_ | with_reducible refine nBlk ?_ | with_reducible refine wp_skip ?_ | with_reducible refine wp_block ?_ | with_reducible refine wp_exit ?_ | with_reducible refine xThen ?_ | with_reducible refine xHere ?_ | with_reducible refine xFar (by decide) ?_ | with_reducible refine wp_ret ?_ | with_reducible refine rThen ?_ | with_reducible refine rBlk ?_)
      replace hseg := hseg.below hb
      replace hvr := TD.below hvr hb
      replace hxr := (Ty.at_ 61 x.enc).below hxr hb
      refine cond_ty hF rfl (fun hgt => ?_) (fun hle => ?_)
      · have hgt : 0 < cmpL (s.getD (k - 1) default).l x.l := of_decide_eq_true hgt
        repeat (first | with_reducible refine wp_seq ?_ | with_reducible refine nThen ?_ | with_reducible refine nBlk ?_ | with_reducible refine wp_skip ?_ | with_reducible refine wp_block ?_ | with_reducible refine wp_exit ?_ | with_reducible refine xThen ?_ | with_reducible refine xHere ?_ | with_reducible refine xFar (by decide) ?_ | with_reducible refine wp_ret ?_ | with_reducible refine rThen ?_ | with_reducible refine rBlk ?_)
        replace hseg := hseg.below (Below.refl _ _)
        refine' reg_all hF ?_ mixed (by kernel_rfl) ?_
        rotate_left
        · repeat (first
              | exact Line.nil
              | (refine' Line.cons rfl (.no rfl rfl rfl rfl rfl rfl) ?_; rotate_left)
              | ((first | refine' Line.cons rfl (.run rfl rfl ?_) ?_ | refine' Line.cons rfl (.yes rfl rfl rfl rfl ?_) ?_)
                 any_goals (first | exact cMove rfl rfl | exact cAssign rfl rfl | exact cNot rfl rfl | exact cSub (r := ((k - 1 : Nat) : Int)) rfl rfl rfl (by omega) | exact cPickT rfl rfl rfl | exact cPickF rfl rfl rfl | exact cLss rfl rfl rfl | exact cLeq rfl rfl rfl | exact cGtr rfl rfl rfl | exact cGeq rfl rfl rfl | exact cEql rfl rfl rfl | exact cNeq rfl rfl rfl | exact cExtract rfl rfl rfl)
                 rotate_left))
        intro a w6 hF hb hN
        have hBs := hB.size
        replace hB := hB.trans (hb.mono hB.size)
        dsimp only [ext, Option.getD] at hF
        repeat (first | with_reducible refine wp_seq ?_ | with_reducible refine nThen ?_ | with_reducible refine nBlk ?_ | with_reducible refine wp_skip ?_ | with_reducible refine wp_block ?_ | with_reducible refine wp_exit ?_ | with_reducible refine xThen ?_ | with_reducible refine xHere ?_ | with_reducible refine xFar (by decide) ?_ | with_reducible refine wp_ret ?_ | with_reducible refine rThen ?_ | with_reducible refine rBlk ?_)
        refine ⟨k - 1, by omega, k - 1, rfl, by omega, hF.keep [0, 3, 4, 5], hB, hseg.below hb, TD.below hvr hb, (Ty.at_ 61 x.enc).below hxr hb, fun j hj hj2 => ?_⟩
        by_cases hjk : k ≤ j
        · exact hhi j hjk hj2
        · obtain rfl : j = k - 1 := by omega
          exact hgt
      · have hle : ¬ 0 < cmpL (s.getD (k - 1) default).l x.l := of_decide_eq_false hle
        repeat (first | with_reducible refine wp_seq ?_ | with_reducible refine nThen ?_ | with_reducible refine nBlk ?_ | with_reducible refine wp_skip ?_ | with_reducible refine wp_block ?_ | with_reducible refine wp_exit ?_ | with_reducible refine xThen ?_ | with_reducible refine xHere ?_ | with_reducible refine xFar (by decide) ?_ | with_reducible refine wp_ret ?_ | with_reducible refine rThen ?_ | with_reducible refine rBlk ?_)
        exact ⟨rfl, k, hk, hF.keep [0, 3, 4, 5], hB, hseg, hvr, hxr, hhi, .inr hle⟩
  clear hF hB hb hBs hseg hvr hxe hss hel hrd hv
  rintro e a wr ⟨rfl, k, hk, hF, hB, hseg, hvr, hxr, hhi, hlo⟩
  have hsr : (Ty.sums 61 s).p wr (.slice A s.length c) := hseg.sl
  repeat (first | with_reducible refine wp_seq ?_ | with_reducible refine nThen ?_ | with_reducible refine nBlk ?_ | with_reducible refine wp_skip ?_ | with_reducible refine wp_block ?_ | with_reducible refine wp_exit ?_ | with_reducible refine xThen ?_ | with_reducible refine xHere ?_ | with_reducible refine xFar (by decide) ?_ | with_reducible refine wp_ret ?_ | with_reducible refine rThen ?_ | with_reducible refine rBlk ?_)
  -- is it there?
  refine wp_mono (Q := fun e a wr => e = .normal ∧ Fr 61 [(0, Ty.ex (.slice (some ⟨gv, ov, none⟩) D.length cv)), (3, Ty.ex (.slice A s.length c)), (4, Ty.ex (.int .i64 (i : Int))), (5, Ty.ex (.int .i64 (k : Int))), (44, Ty.ex (.bool (decide (0 < k ∧ s.getD (k - 1) default = x))))] a wr ∧ Below w.heap.size w wr ∧ Seg wr 61 32 (.slice A s.length c) s.length (flat s) S ∧ TD.p wr (.slice (some ⟨gv, ov, none⟩) D.length cv) ∧ (Ty.at_ 61 x.enc).p wr (.pointer (some ⟨gv, ov + i * 32, none⟩))) ?_ ?_
  · by_cases hk0 : k = 0
    · subst hk0
      refine' reg_all hF ?_ mixed (by kernel_rfl) ?_
      rotate_left
      · repeat (first
            | exact Line.nil
            | (refine' Line.cons rfl (.no rfl rfl rfl rfl rfl rfl) ?_; rotate_left)
            | ((first | refine' Line.cons rfl (.run rfl rfl ?_) ?_ | refine' Line.cons rfl (.yes rfl rfl rfl rfl ?_) ?_)
               any_goals (first | exact cMove rfl rfl | exact cAssign rfl rfl | exact cNot rfl rfl | exact OpOk.b (c := false) (cGtr rfl rfl rfl) rfl | exact cPickT rfl rfl rfl | exact cPickF rfl rfl rfl | exact cLss rfl rfl rfl | exact cLeq rfl rfl rfl | exact cGtr rfl rfl rfl | exact cGeq rfl rfl rfl | exact cEql rfl rfl rfl | exact cNeq rfl rfl rfl | exact cExtract rfl rfl rfl)
               rotate_left))
      intro a w5 hF hb hN
      have hBs := hB.size
      replace hB := hB.trans (hb.mono hB.size)
      dsimp only [ext, Option.getD] at hF
      repeat (first | with_reducible refine wp_seq ?_ | with_reducible refine nThen ?_ | with_reducible refine nBlk ?_ | with_reducible refine wp_skip ?_ | with_reducible refine wp_block ?_ | with_reducible refine wp_exit ?_ | with_reducible refine xThen ?_ | with_reducible refine xHere ?_ | with_reducible refine xFar (by decide) ?_ | with_reducible refine wp_ret ?_ | with_reducible refine rThen ?_ | with_reducible refine rBlk ?_)
      exact ⟨rfl, hF.keep [0, 3, 4, 5, 44], hB, hseg.below hb, TD.below hvr hb, (Ty.at_ 61 x.enc).below hxr hb⟩
    · have e : decide (0 < k ∧ s.getD (k - 1) default = x) = decide (s.getD (k - 1) default = x) := by
        rw [decide_eq_decide]
        exact ⟨fun h => h.2, fun h => ⟨by omega, h⟩⟩
      rw [e]
      refine' reg_all hF ?_ mixed (by kernel_rfl) ?_
      rotate_left
      · repeat (first
            | exact Line.nil
            | (refine' Line.cons rfl (.no rfl rfl rfl rfl rfl rfl) ?_; rotate_left)
            | ((first | refine' Line.cons rfl (.run rfl rfl ?_) ?_ | refine' Line.cons rfl (.yes rfl rfl rfl rfl ?_) ?_)
               any_goals (first | exact cMove rfl rfl | exact cAssign rfl rfl | exact cNot rfl rfl | exact OpOk.b (c := true) (cGtr rfl rfl rfl) (decide_eq_true (by omega)) | exact cSub (r := ((k - 1 : Nat) : Int)) rfl rfl rfl (by omega) | exact cIndexEx (k := i) (sz := 32) rfl rfl rfl Try.underlying57 sizeR hlt | exact cIndexSum (k := k - 1) rfl (.l rfl hsr) rfl Try.underlying58 sizeR (by omega) | exact cLoadSum rfl (.l rfl hxr) Try.underlying61 sizeR | exact cLoadSum rfl (.t rfl) Try.underlying61 sizeR | exact cEqlAgg rfl rfl rfl guardR (fun w => eqlR _ _ w) | exact cPickT rfl rfl rfl | exact cPickF rfl rfl rfl | exact cLss rfl rfl rfl | exact cLeq rfl rfl rfl | exact cGtr rfl rfl rfl | exact cGeq rfl rfl rfl | exact cEql rfl rfl rfl | exact cNeq rfl rfl rfl | exact cExtract rfl rfl rfl)
               rotate_left))
      intro a w5 hF hb hN
      have hBs := hB.size
      replace hB := hB.trans (hb.mono hB.size)
      dsimp only [ext, Option.getD] at hF
      repeat (first | with_reducible refine wp_seq ?_ | with_reducible refine nThen ?_ | with_reducible refine nBlk ?_ | with_reducible refine wp_skip ?_ | with_reducible refine wp_block ?_ | with_reducible refine wp_exit ?_ | with_reducible refine xThen ?_ | with_reducible refine xHere ?_ | with_reducible refine xFar (by decide) ?_ | with_reducible refine wp_ret ?_ | with_reducible refine rThen ?_ | with_reducible refine rBlk ?_)
      exact ⟨rfl, hF.keep [0, 3, 4, 5, 44], hB, hseg.below hb, TD.below hvr hb, (Ty.at_ 61 x.enc).below hxr hb⟩
  clear hF hB hseg hvr hxr hsr
  rintro e a wr ⟨rfl, hF, hB, hseg, hvr, hxr⟩
  repeat (first | with_reducible refine wp_seq ?_ | with_reducible refine nThen ?_ | with_reducible refine nBlk ?_ | with_reducible refine wp_skip ?_ | with_reducible refine wp_block ?_ | with_reducible refine wp_exit ?_ | with_reducible refine xThen ?_ | with_reducible refine xHere ?_ | with_reducible refine xFar (by decide) ?_ | with_reducible refine wp_ret ?_ | with_reducible refine rThen ?_ | with_reducible refine rBlk ?_)
  refine cond_ty hF rfl (fun hth => ?_) (fun hno => ?_)
  · have hth := of_decide_eq_true hth
    have e : s = setL (D.take (i + 1)) := by rw [htk]; exact ins_same hk hth.1 hth.2 _ hs
    rw [e] at hseg
    repeat (first | with_reducible refine wp_seq ?_ | with_reducible refine nThen ?_ | with_reducible refine nBlk ?_ | with_reducible refine wp_skip ?_ | with_reducible refine wp_block ?_ | with_reducible refine wp_exit ?_ | with_reducible refine xThen ?_ | with_reducible refine xHere ?_ | with_reducible refine xFar (by decide) ?_ | with_reducible refine wp_ret ?_ | with_reducible refine rThen ?_ | with_reducible refine rBlk ?_)
    rw [e] at hF
    refine' reg_all hF ?_ mixed (by kernel_rfl) ?_
    rotate_left
    · repeat (first
          | exact Line.nil
          | (refine' Line.cons rfl (.no rfl rfl rfl rfl rfl rfl) ?_; rotate_left)
          | ((first | refine' Line.cons rfl (.run rfl rfl ?_) ?_ | refine' Line.cons rfl (.yes rfl rfl rfl rfl ?_) ?_)
             any_goals (first | exact cMove rfl rfl | exact cAssign rfl rfl | exact cNot rfl rfl | exact cAdd (r := ((i + 1 : Nat) : Int)) rfl rfl rfl (by omega) | exact cPickT rfl rfl rfl | exact cPickF rfl rfl rfl | exact cLss rfl rfl rfl | exact cLeq rfl rfl rfl | exact cGtr rfl rfl rfl | exact cGeq rfl rfl rfl | exact cEql rfl rfl rfl | exact cNeq rfl rfl rfl | exact cExtract rfl rfl rfl)
             rotate_left))
    intro a w6 hF hb hN
    have hBs := hB.size
    replace hB := hB.trans (hb.mono hB.size)
    dsimp only [ext, Option.getD] at hF
    repeat (first | with_reducible refine wp_seq ?_ | with_reducible refine nThen ?_ | with_reducible refine nBlk ?_ | with_reducible refine wp_skip ?_ | with_reducible refine wp_block ?_ | with_reducible refine wp_exit ?_ | with_reducible refine xThen ?_ | with_reducible refine xHere ?_ | with_reducible refine xFar (by decide) ?_ | with_reducible refine wp_ret ?_ | with_reducible refine rThen ?_ | with_reducible refine rBlk ?_)
    refine ⟨m - 1, by omega, i + 1, .slice A (setL (D.take (i + 1))).length c, S, by omega, hF.keep [0, 3, 4], hB, hseg.below hb, hS⟩
  have hno := of_decide_eq_false hno
  have e : s.take k ++ [x] ++ s.drop k = setL (D.take (i + 1)) := by
    rw [htk]
    refine ins_new hk hhi hlo ?_ _ hs
    by_cases hk0 : k = 0
    · exact .inl hk0
    · exact .inr fun h => hno ⟨by omega, h⟩
  have hwr : w.heap.size ≤ wr.heap.size := hB.size
  have hsr : (Ty.sums 61 s).p wr (.slice A s.length c) := hseg.sl
  have h48 : (Ty.sl 61 k (flat (s.take k))).p wr (.slice A k c) := by rw [← flat_take]; exact SlP.takeA hsr hk _
  have h58 : (Ty.sl 61 (s.length - k) (flat (s.drop k))).p wr (.slice (if c = k then A else A.map (·.add (k * 32))) (s.length - k) (c - k)) := by rw [← flat_drop]; exact SlP.dropA hsr hk (flat_len s)
  have l1 : (flat (s.take k)).length = k * 32 := by rw [flat_len, List.length_take, Nat.min_eq_left hk]
  have l2 : (flat [x]).length = 1 * 32 := by rw [flat_len]; rfl
  have l3 : (flat (s.drop k)).length = (s.length - k) * 32 := by rw [flat_len, List.length_drop]
  repeat (first | with_reducible refine wp_seq ?_ | with_reducible refine nThen ?_ | with_reducible refine nBlk ?_ | with_reducible refine wp_skip ?_ | with_reducible refine wp_block ?_ | with_reducible refine wp_exit ?_ | with_reducible refine xThen ?_ | with_reducible refine xHere ?_ | with_reducible refine xFar (by decide) ?_ | with_reducible refine wp_ret ?_ | with_reducible refine rThen ?_ | with_reducible refine rBlk ?_)
  refine' region_own 15 [(4, 45), (10, 49), (14, 55)] mixed (by kernel_rfl) hF ?_ ?_
  rotate_left
  · simp only [List.take_succ_cons, List.take_zero]
    repeat (first
        | exact LineO.nil
        | (refine' LineO.cons rfl rfl (.no rfl rfl rfl rfl rfl) ?_; rotate_left)
        | ((first | refine' LineO.cons rfl rfl (.run rfl ?_) ?_ | refine' LineO.cons rfl rfl (.yes rfl rfl rfl ?_) ?_)
           any_goals (first | exact .ex (cMove rfl rfl) | exact .ex (cAssign rfl rfl) | exact .ex (cNot rfl rfl) | exact oBuild0 rfl Try.underlying58 infoR1 | exact .ex (cSliceHiA rfl rfl rfl Try.underlying58 sizeR hk hnc (fun h => (hAn h).2)) | exact .ex (cIndexEx (k := i) (sz := 32) rfl rfl rfl Try.underlying57 sizeR hlt) | exact .ex (cLoadSum rfl (.l rfl hxr) Try.underlying61 sizeR) | exact oBuildSum1 (x := x) rfl rfl Try.underlying58 infoR1 | exact .ex (cSliceLoA (k := k) rfl rfl rfl Try.underlying58 sizeR hk) | exact .ex (cPickT rfl rfl rfl) | exact .ex (cPickF rfl rfl rfl) | exact .ex (cLss rfl rfl rfl) | exact .ex (cLeq rfl rfl rfl) | exact .ex (cGtr rfl rfl rfl) | exact .ex (cGeq rfl rfl rfl) | exact .ex (cEql rfl rfl rfl) | exact .ex (cNeq rfl rfl rfl) | exact .ex (cExtract rfl rfl rfl))
           rotate_left)
        | ((first | refine' LineO.take rfl rfl rfl (.run rfl ?_) ?_ | refine' LineO.take rfl rfl rfl (.yes rfl rfl rfl ?_) ?_)
           any_goals (first | exact tkAppend (m := k) (news := flat (s.take k)) rfl Try.underlying58 infoR1 zero32_size (.l rfl h48) sl_news l1 flat_one' (by simp [maxLen]; omega) (by omega) | exact tkAppend (m := 1) (news := flat [x]) rfl Try.underlying58 infoR1 zero32_size (.t rfl) seg_news l2 flat_one' (by simp [maxLen]; omega) (by omega) | exact tkAppend (m := s.length - k) (news := flat (s.drop k)) rfl Try.underlying58 infoR1 zero32_size (.l rfl h58) sl_news l3 flat_one' (by simp [maxLen]; omega) (by omega))
           rotate_left))
  intro a w6 hF hb hN
  have hBs := hb.size
  replace hB := hB.trans (hb.mono hB.size)
  simp only [List.take_succ_cons, List.take_zero, List.drop_succ_cons, List.drop_zero] at hF hN ⊢
  dsimp only [hideT, List.foldr, extO, Option.getD, OTy.ex, OTy.seg, OTy.slo, OTy.var] at hF
  replace hvr := TD.below hvr hb
  obtain ⟨u, ⟨S', hsg, hS'⟩, hF⟩ := hF.open (s := 59) rfl
  have en : 0 + k + 1 + (s.length - k) = (setL (D.take (i + 1))).length := by rw [← e]; simp; omega
  have ex : [] ++ flat (s.take k) ++ flat [x] ++ flat (s.drop k) = flat (setL (D.take (i + 1))) := by rw [← e, flat_append, flat_append, List.nil_append]
  rw [en, ex] at hsg
  refine' tlOp hF rfl rfl rfl ?_ ?_
  rotate_left
  · first | exact cMove rfl rfl | exact cAssign rfl rfl | exact cPickT rfl rfl rfl | exact cPickF rfl rfl rfl | exact cNot rfl rfl | exact cLss rfl rfl rfl | exact cLeq rfl rfl rfl | exact cGtr rfl rfl rfl | exact cGeq rfl rfl rfl | exact cEql rfl rfl rfl | exact cNeq rfl rfl rfl | exact cExtract rfl rfl rfl
  intro a w7 hF hb
  have hBs := hB.size
  replace hB := hB.trans (hb.mono hB.size)
  try (refine wpList_nil ?_)
  repeat (first | with_reducible refine wp_seq ?_ | with_reducible refine nThen ?_ | with_reducible refine nBlk ?_ | with_reducible refine wp_skip ?_ | with_reducible refine wp_block ?_ | with_reducible refine wp_exit ?_ | with_reducible refine xThen ?_ | with_reducible refine xHere ?_ | with_reducible refine xFar (by decide) ?_ | with_reducible refine wp_ret ?_ | with_reducible refine rThen ?_ | with_reducible refine rBlk ?_)
  replace hsg := hsg.below hb
  refine' reg_all hF ?_ mixed (by kernel_rfl) ?_
  rotate_left
  · repeat (first
        | exact Line.nil
        | (refine' Line.cons rfl (.no rfl rfl rfl rfl rfl rfl) ?_; rotate_left)
        | ((first | refine' Line.cons rfl (.run rfl rfl ?_) ?_ | refine' Line.cons rfl (.yes rfl rfl rfl rfl ?_) ?_)
           any_goals (first | exact cMove rfl rfl | exact cAssign rfl rfl | exact cNot rfl rfl | exact cAdd (r := ((i + 1 : Nat) : Int)) rfl rfl rfl (by omega) | exact cPickT rfl rfl rfl | exact cPickF rfl rfl rfl | exact cLss rfl rfl rfl | exact cLeq rfl rfl rfl | exact cGtr rfl rfl rfl | exact cGeq rfl rfl rfl | exact cEql rfl rfl rfl | exact cNeq rfl rfl rfl | exact cExtract rfl rfl rfl)
           rotate_left))
  intro a w8 hF hb hN
  have hBs := hB.size
  replace hB := hB.trans (hb.mono hB.size)
  dsimp only [ext, Option.getD] at hF
  repeat (first | with_reducible refine wp_seq ?_ | with_reducible refine nThen ?_ | with_reducible refine nBlk ?_ | with_reducible refine wp_skip ?_ | with_reducible refine wp_block ?_ | with_reducible refine wp_exit ?_ | with_reducible refine xThen ?_ | with_reducible refine xHere ?_ | with_reducible refine xFar (by decide) ?_ | with_reducible refine wp_ret ?_ | with_reducible refine rThen ?_ | with_reducible refine rBlk ?_)
  exact ⟨m - 1, by omega, i + 1, u, S', by omega, hF.keep [0, 3, 4], hB, hsg.below hb, fun y hy => Nat.le_trans hwr (hS' y hy)⟩
end Go.Proofs.Ytmlbkcpmgcjblaa
