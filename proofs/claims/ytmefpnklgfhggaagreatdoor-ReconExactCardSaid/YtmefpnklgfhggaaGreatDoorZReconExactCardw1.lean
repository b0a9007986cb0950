/- Joined: ReconG, LawReconExact. -/
import Derived.Test.YtmefpnklgfhggaaGreatDoorRows
import Derived.Deep.DeepHandedRow
import Derived.Lib.LaidTab
import Derived.ProofKit
import Derived.SizedLaws
import Derived.Test.YtmefpnklgfhggaaGreatDoorZRecon6
/- Layer 18: ReconExact. -/
namespace Go.Proofs.YtmefpnklgfhggaaGreatDoor
open Go.RowKit

section
variable {w : World} {g : Nat} {m t o : Value} {s : Sd}
theorem done_t (h : SideM w g m t o s) (hk : s.kind = 0) : Ret Tryz.prog 20 #[.pointer (some ⟨g, 0, none⟩)] w (Ty.ex (.bool true)) := by
  have := done_ret h
  rwa [decide_eq_true hk] at this
theorem done_f (h : SideM w g m t o s) (hk : ¬ s.kind = 0) : Ret Tryz.prog 20 #[.pointer (some ⟨g, 0, none⟩)] w (Ty.ex (.bool false)) := by
  have := done_ret h
  rwa [decide_eq_false hk] at this
end
theorem sameL_is {L M : List Sm} (h : sameL L M = true) : L = M := by
  unfold sameL at h
  rw [Bool.and_eq_true] at h
  exact of_decide_eq_true h.2
theorem Sd.Inv.fin {s : Sd} {M Y : List Sm} (h : s.Inv M Y) (hk : s.kind = 0) : SFin s Y := by
  rcases h.kind with k | ⟨k, _⟩ | k | ⟨_, k⟩
  · omega
  · omega
  · omega
  · exact k
set_option maxRecDepth 100000 in
set_option maxHeartbeats 4000000 in
theorem lawReconExact_any (l0 l1 : List Int) (seed : Nat) {W : World} {v0 v1 : Value} (hsd : seed < 18446744073709551616) (h0 : (Ty.rd l0.length (l0.map ivz)).p W v0) (h1 : (Ty.rd l1.length (l1.map ivz)).p W v1) (hT : TabOk W) : Calls Tryz.prog 5 #[v0, v1, .int .u64 (seed : Int)] W fun e w' => e = .returned (.bool true) ∧ Below W.heap.size W w' := by
  let T0 := Ty.rd l0.length (l0.map ivz)
  let T1 := Ty.rd l1.length (l1.map ivz)
  refine enter_ty 95 [Ty.ex v0, Ty.ex v1, Ty.ex (.int .u64 (seed : Int))] Tryz.func5 rfl (by kernel_rfl) ⟨rfl, rfl, rfl, trivial⟩ fun a hF => ?_
  have hB := Below.refl W.heap.size W
  repeat with_reducible refine wp_seq ?_
  refine' reg_all hF ?_ mixed (by kernel_rfl) ?_
  rotate_left
  · repeat (first | exact Line.nil | ((refine' Line.cons rfl (.run rfl rfl ?_) ?_); (any_goals exact cAssign rfl rfl); rotate_left))
  intro a w1 hF hb hN
  have hBs := hB.size
  replace hB := hB.trans (hb.mono hB.size)
  dsimp only [ext, Option.getD] at hF
  repeat with_reducible first | refine wp_seq ?_ | refine nThen ?_
  refine' reg_all hF ?_ mixed (by kernel_rfl) ?_
  rotate_left
  · repeat (first | exact Line.nil | ((refine' Line.cons rfl (.run rfl rfl ?_) ?_); (any_goals (first | exact cNot rfl rfl | exact cCallT0 rfl (hT.below hB) enAwake18 awake18_ret)); rotate_left))
  intro a w2 hF hb hN
  have hBs := hB.size
  replace hB := hB.trans (hb.mono hB.size)
  dsimp only [ext, Option.getD] at hF
  repeat with_reducible refine nThen ?_
  refine cond_f hF rfl ?_
  repeat with_reducible first | refine wp_seq ?_ | refine nThen ?_ | refine wp_skip ?_
  have k0 := T0.below h0 hB
  have k1 := T1.below h1 hB
  by_cases c0 : (60 : Int) < l0.length
  · refine' reg_all hF ?_ mixed (by kernel_rfl) ?_
    rotate_left
    · repeat (first | exact Line.nil | (refine' Line.cons rfl (.no rfl rfl rfl rfl rfl rfl) ?_; rotate_left) | ((refine' Line.cons rfl (.run rfl rfl ?_) ?_); (any_goals (first | exact cMove rfl rfl | exact cLenH rfl (.l rfl k0) (Ty.rd_isSl _ _) Tryz.underlying33 | exact OpOk.b (c := true) (cGtr rfl rfl rfl) (decide_eq_true (by omega)) | exact cPickT rfl rfl rfl)); rotate_left))
    intro a w3 hF hb hN
    have hBs := hB.size
    replace hB := hB.trans (hb.mono hB.size)
    dsimp only [ext, Option.getD] at hF
    repeat with_reducible refine nThen ?_
    refine cond_t hF rfl ?_
    repeat with_reducible refine wp_seq ?_
    refine' reg_all hF ?_ mixed (by kernel_rfl) ?_
    rotate_left
    · repeat (first | exact Line.nil | ((refine' Line.cons rfl (.run rfl rfl ?_) ?_); (any_goals exact cAssign rfl rfl); rotate_left))
    intro a w4 hF hb hN
    have hBs := hB.size
    replace hB := hB.trans (hb.mono hB.size)
    dsimp only [ext, Option.getD] at hF
    repeat with_reducible first | refine nThen ?_ | refine wp_ret ?_ | refine rThen ?_
    refine ret1 hF rfl rfl fun z hz => ?_
    exact ⟨by rw [show z = .bool true from hz], hB⟩
  by_cases c1 : (60 : Int) < l1.length
  · refine' reg_all hF ?_ mixed (by kernel_rfl) ?_
    rotate_left
    · repeat (first | exact Line.nil | ((first | refine' Line.cons rfl (.run rfl rfl ?_) ?_ | refine' Line.cons rfl (.yes rfl rfl rfl rfl ?_) ?_); (any_goals (first | exact cMove rfl rfl | exact cLenH rfl (.l rfl k0) (Ty.rd_isSl _ _) Tryz.underlying33 | exact cLenH rfl (.l rfl k1) (Ty.rd_isSl _ _) Tryz.underlying33 | exact OpOk.b (c := true) (cGtr rfl rfl rfl) (decide_eq_true (by omega)) | exact OpOk.b (c := false) (cGtr rfl rfl rfl) (decide_eq_false (by omega)) | exact cPickF rfl rfl rfl)); rotate_left))
    intro a w3 hF hb hN
    have hBs := hB.size
    replace hB := hB.trans (hb.mono hB.size)
    dsimp only [ext, Option.getD] at hF
    repeat with_reducible refine nThen ?_
    refine cond_t hF rfl ?_
    repeat with_reducible refine wp_seq ?_
    refine' reg_all hF ?_ mixed (by kernel_rfl) ?_
    rotate_left
    · repeat (first | exact Line.nil | ((refine' Line.cons rfl (.run rfl rfl ?_) ?_); (any_goals exact cAssign rfl rfl); rotate_left))
    intro a w4 hF hb hN
    have hBs := hB.size
    replace hB := hB.trans (hb.mono hB.size)
    dsimp only [ext, Option.getD] at hF
    repeat with_reducible first | refine nThen ?_ | refine wp_ret ?_ | refine rThen ?_
    refine ret1 hF rfl rfl fun z hz => ?_
    exact ⟨by rw [show z = .bool true from hz], hB⟩
  refine' reg_all hF ?_ mixed (by kernel_rfl) ?_
  rotate_left
  · repeat (first | exact Line.nil | ((first | refine' Line.cons rfl (.run rfl rfl ?_) ?_ | refine' Line.cons rfl (.yes rfl rfl rfl rfl ?_) ?_); (any_goals (first | exact cMove rfl rfl | exact cLenH rfl (.l rfl k0) (Ty.rd_isSl _ _) Tryz.underlying33 | exact cLenH rfl (.l rfl k1) (Ty.rd_isSl _ _) Tryz.underlying33 | exact OpOk.b (c := false) (cGtr rfl rfl rfl) (decide_eq_false (by omega)) | exact cPickF rfl rfl rfl)); rotate_left))
  intro a w3 hF hb hN
  have hBs := hB.size
  replace hB := hB.trans (hb.mono hB.size)
  dsimp only [ext, Option.getD] at hF
  repeat with_reducible refine nThen ?_
  refine cond_f hF rfl ?_
  repeat with_reducible first | refine wp_seq ?_ | refine nThen ?_ | refine wp_skip ?_
  replace k0 := T0.below k0 hb
  replace k1 := T1.below k1 hb
  have f0 := few18_ty l0 T0 (reads_rd _ _) (by omega)
  have f1 := few18_ty l1 T1 (reads_rd _ _) (by omega)
  have hMl := fewL_len l0
  have hMs := fewL_srt l0
  have hYl := fewL_len l1
  have hYs := fewL_srt l1
  generalize fewL l0 = M at *
  generalize fewL l1 = Y at *
  have lM : M.length ≤ 512 := by omega
  have lY : Y.length ≤ 512 := by omega
  have hNw := new_any M seed (by omega) (by rw [goodL_srt hMs, decide_eq_true lM])
  refine' reg_all hF ?_ mixed (by kernel_rfl) ?_
  rotate_left
  · repeat (first | exact Line.nil | ((refine' Line.cons rfl (.run rfl rfl ?_) ?_); (any_goals (first | exact cMove rfl rfl | exact cAssign rfl rfl | exact cCallS1 rfl (.l rfl k0) f0 | exact cCallS1 rfl (.l rfl k1) f1)); rotate_left))
  intro a w4 hF hb hN
  have hBs := hB.size
  replace hB := hB.trans (hb.mono hB.size)
  dsimp only [ext, Option.getD] at hF
  repeat with_reducible first | refine wp_seq ?_ | refine nThen ?_
  replace hF := hF.as hF (s := 7) (σ := Ty.sums 28 M) rfl (fun v hv => seg_sl _ _ hv)
  replace hF := hF.as hF (s := 8) (σ := Ty.sums 28 Y) rfl (fun v hv => seg_sl _ _ hv)
  have hw4 := hB.size
  refine' reg_all hF ?_ mixed (by kernel_rfl) ?_
  rotate_left
  · repeat (first | exact Line.nil | ((refine' Line.cons rfl (.run rfl rfl ?_) ?_); (any_goals (first | exact cMove rfl rfl | exact cAssign rfl rfl | exact cCallR2 rfl (.t rfl) (.t rfl) hNw (newSd_olds _ _) | exact cExtract rfl rfl rfl)); rotate_left))
  intro a w5 hF hb hN
  have hBs := hB.size
  replace hB := hB.trans (hb.mono hB.size)
  dsimp only [ext, Option.getD] at hF
  repeat with_reducible first | refine wp_seq ?_ | refine nThen ?_
  obtain ⟨z, ⟨g, m, rfl, hgw, hS⟩, hF⟩ := hF.open (s := 9) rfl
  have hgw : W.heap.size ≤ g := by
    have : w4.heap.size ≤ g := hgw
    omega
  refine' reg_all hF ?_ mixed (by kernel_rfl) ?_
  rotate_left
  · repeat (first | exact Line.nil | ((first | refine' Line.cons rfl (.run rfl rfl ?_) ?_ | refine' Line.cons rfl (.yes rfl rfl rfl rfl ?_) ?_); (any_goals (first | exact cMove rfl rfl | exact OpOk.b (c := false) (cNeq rfl rfl rfl) rfl | exact cEqlPtrNil rfl rfl Tryz.underlying23 | exact cPickF rfl rfl rfl)); rotate_left))
  intro a w6 hF hb hN
  have hBs := hB.size
  replace hB := hB.trans (hb.mono hB.size)
  dsimp only [ext, Option.getD] at hF
  repeat with_reducible refine nThen ?_
  replace hS := hS.below hb
  refine cond_f hF rfl ?_
  repeat with_reducible first | refine wp_seq ?_ | refine nThen ?_ | refine wp_skip ?_
  refine' reg_all hF ?_ mixed (by kernel_rfl) ?_
  rotate_left
  · repeat (first | exact Line.nil | ((refine' Line.cons rfl (.run rfl rfl ?_) ?_); (any_goals exact cAssign rfl rfl); rotate_left))
  intro a w7 hF hb hN
  have hBs := hB.size
  replace hB := hB.trans (hb.mono hB.size)
  dsimp only [ext, Option.getD] at hF
  repeat with_reducible first | refine nThen ?_ | refine wp_block ?_
  replace hS := hS.below hb
  have hI0 := inv_new M Y seed hsd
  refine loop_ty (fun mm a wr => ∃ (i : Nat) (s : Sd) (t o : Value), s.mu = mm ∧ i + mm ≤ 10 ∧ Fr 95 [(7, Ty.sums 28 M), (8, Ty.sums 28 Y), (9, Ty.ex (.pointer (some ⟨g, 0, none⟩))), (11, Ty.ex (.int .i64 (i : Int)))] a wr ∧ Below W.heap.size W wr ∧ SideM wr g m t o s ∧ s.Inv M Y) 10 ?_ ?_
  · exact ⟨0, sd0 M seed, nilS, nilS, by simp [Sd.mu, sd0], by omega, hF.keep [7, 8, 9, 11], hB, hS, hI0⟩
  clear hF hB hS hI0 k0 k1
  rintro mm a wr ⟨i, s, t, o, hmu, hi, hF, hB, hS, hI⟩
  repeat with_reducible refine wp_seq ?_
  by_cases hk : s.kind = 0
  rotate_left
  · refine' reg_all hF ?_ mixed (by kernel_rfl) ?_
    rotate_left
    · repeat (first | exact Line.nil | ((first | refine' Line.cons rfl (.run rfl rfl ?_) ?_ | refine' Line.cons rfl (.yes rfl rfl rfl rfl ?_) ?_); (any_goals (first | exact cMove rfl rfl | exact cNot rfl rfl | exact OpOk.b (c := true) (cLss rfl rfl rfl) (decide_eq_true (by omega)) | exact cCallX1 rfl rfl enDone (fun W hb => done_f (hS.below hb) hk) | exact cPickT rfl rfl rfl)); rotate_left))
    intro a w8 hF hb hN
    have hBs := hB.size
    replace hB := hB.trans (hb.mono hB.size)
    dsimp only [ext, Option.getD] at hF
    repeat with_reducible refine nThen ?_
    replace hS := hS.below hb
    refine cond_t hF rfl ?_
    repeat with_reducible first | refine wp_seq ?_ | refine nThen ?_ | refine wp_skip ?_ | refine wp_block ?_
    obtain ⟨hI2, hE, hlt⟩ := inv_step hI hYs lY lM hk
    refine wp_region_lit ?_
    refine' tlOp hF rfl rfl rfl ?_ ?_
    rotate_left
    · exact cMove rfl rfl
    intro a w9a hF hb
    have hBs := hB.size
    replace hB := hB.trans (hb.mono hB.size)
    try (refine wpList_nil ?_)
    replace hS := hS.below hb
    refine' tlOp hF rfl rfl rfl ?_ ?_
    rotate_left
    · exact cMove rfl rfl
    intro a w9b hF hb
    have hBs := hB.size
    replace hB := hB.trans (hb.mono hB.size)
    try (refine wpList_nil ?_)
    replace hS := hS.below hb
    refine tlDoes hF rfl rfl (by decide) rfl rfl rfl (fun _ _ h => h) hS (hT.below hB) hI hYs lY lM hk (hF.keep [7, 8, 9, 11]) rfl fun a w10 t' o' hF hS' hk10 => ?_
    replace hB := below_own hB hk10 (by intro y hy; simp only [List.mem_singleton] at hy; omega)
    clear hS
    have hS := hS'
    clear hS'
    generalize s.doE Y = en at *
    generalize s.doS Y = s' at *
    refine' tlOp hF rfl rfl rfl ?_ ?_
    rotate_left
    · exact cAssign rfl rfl
    intro a w11 hF hb
    have hBs := hB.size
    replace hB := hB.trans (hb.mono hB.size)
    try (refine wpList_nil ?_)
    repeat with_reducible first | refine wp_seq ?_ | refine nThen ?_
    replace hS := hS.below hb
    have hfin : ∀ (a : Act) (w' : World), Fr 95 [(7, Ty.sums 28 M), (8, Ty.sums 28 Y), (9, Ty.ex (.pointer (some ⟨g, 0, none⟩))), (11, Ty.ex (.int .i64 (i : Int))), (57, Ty.ex (.bool false))] a w' → True := fun _ _ _ => trivial
    clear hfin
    rcases hE with hE | hE
    · rw [hE] at hF
      refine' reg_all hF ?_ mixed (by kernel_rfl) ?_
      rotate_left
      · repeat (first | exact Line.nil | (refine' Line.cons rfl (.no rfl rfl rfl rfl rfl rfl) ?_; rotate_left) | ((refine' Line.cons rfl (.run rfl rfl ?_) ?_); (any_goals (first | exact cMove rfl rfl | exact OpOk.b (c := false) (cNeq rfl rfl rfl) rfl | exact cPickF rfl rfl rfl)); rotate_left))
      intro a w12 hF hb hN
      have hBs := hB.size
      replace hB := hB.trans (hb.mono hB.size)
      dsimp only [ext, Option.getD] at hF
      repeat with_reducible refine nThen ?_
      replace hS := hS.below hb
      refine cond_f hF rfl ?_
      repeat with_reducible first | refine nThen ?_ | refine nBlk ?_ | refine wp_skip ?_
      refine' reg_all hF ?_ mixed (by kernel_rfl) ?_
      rotate_left
      · repeat (first | exact Line.nil | ((refine' Line.cons rfl (.run rfl rfl ?_) ?_); (any_goals (first | exact cMove rfl rfl | exact cAssign rfl rfl | exact cAdd (r := ((i + 1 : Nat) : Int)) rfl rfl rfl (by omega))); rotate_left))
      intro a w13 hF hb hN
      have hBs := hB.size
      replace hB := hB.trans (hb.mono hB.size)
      dsimp only [ext, Option.getD] at hF
      repeat with_reducible refine nThen ?_
      exact ⟨s'.mu, by omega, i + 1, s', t', o', rfl, by omega, hF.keep [7, 8, 9, 11], hB, hS.below hb, hI2⟩
    · rw [hE] at hF
      refine' reg_all hF ?_ mixed (by kernel_rfl) ?_
      rotate_left
      · repeat (first | exact Line.nil | ((first | refine' Line.cons rfl (.run rfl rfl ?_) ?_ | refine' Line.cons rfl (.yes rfl rfl rfl rfl ?_) ?_); (any_goals (first | exact cMove rfl rfl | exact OpOk.b (c := true) (cNeq (m := 10) (n := 0) rfl rfl rfl) rfl | exact OpOk.b (c := false) (cNeq (m := 10) (n := 10) rfl rfl rfl) rfl | exact cPickT rfl rfl rfl)); rotate_left))
      intro a w12 hF hb hN
      have hBs := hB.size
      replace hB := hB.trans (hb.mono hB.size)
      dsimp only [ext, Option.getD] at hF
      repeat with_reducible refine nThen ?_
      replace hS := hS.below hb
      refine cond_f hF rfl ?_
      repeat with_reducible first | refine nThen ?_ | refine nBlk ?_ | refine wp_skip ?_
      refine' reg_all hF ?_ mixed (by kernel_rfl) ?_
      rotate_left
      · repeat (first | exact Line.nil | ((refine' Line.cons rfl (.run rfl rfl ?_) ?_); (any_goals (first | exact cMove rfl rfl | exact cAssign rfl rfl | exact cAdd (r := ((i + 1 : Nat) : Int)) rfl rfl rfl (by omega))); rotate_left))
      intro a w13 hF hb hN
      have hBs := hB.size
      replace hB := hB.trans (hb.mono hB.size)
      dsimp only [ext, Option.getD] at hF
      repeat with_reducible refine nThen ?_
      exact ⟨s'.mu, by omega, i + 1, s', t', o', rfl, by omega, hF.keep [7, 8, 9, 11], hB, hS.below hb, hI2⟩
  have hfn := hI.fin hk
  have hmm := hI.mine
  have hrr := hI.rounds
  have lT := hI.lenT
  have lO := hI.lenO
  have hSm := fin_same hfn
  have htl := hfn.tell
  rw [hmm] at hSm htl
  have hMi := minus_ty M s.ours (by omega) (by omega)
  have lMi := minusL_len M s.ours
  have hEi := either_ty (minusL M s.ours) s.theirs (by omega) (by omega)
  have lEi := setL_len (minusL M s.ours ++ s.theirs)
  rw [List.length_append] at lEi
  refine' reg_all hF ?_ mixed (by kernel_rfl) ?_
  rotate_left
  · repeat (first | exact Line.nil | ((first | refine' Line.cons rfl (.run rfl rfl ?_) ?_ | refine' Line.cons rfl (.yes rfl rfl rfl rfl ?_) ?_); (any_goals (first | exact cMove rfl rfl | exact cNot rfl rfl | exact OpOk.b (c := true) (cLss rfl rfl rfl) (decide_eq_true (by omega)) | exact cCallX1 rfl rfl enDone (fun W hb => done_t (hS.below hb) hk) | exact cPickT rfl rfl rfl)); rotate_left))
  intro a w8 hF hb hN
  have hBs := hB.size
  replace hB := hB.trans (hb.mono hB.size)
  dsimp only [ext, Option.getD] at hF
  repeat with_reducible refine nThen ?_
  replace hS := hS.below hb
  refine cond_f hF rfl ?_
  repeat with_reducible first | refine wp_seq ?_ | refine nThen ?_ | refine wp_exit ?_ | refine xThen ?_ | refine xHere ?_
  refine' reg_all hF ?_ mixed (by kernel_rfl) ?_
  rotate_left
  · repeat (first | exact Line.nil | ((first | refine' Line.cons rfl (.run rfl rfl ?_) ?_ | refine' Line.cons rfl (.yes rfl rfl rfl rfl ?_) ?_); (any_goals (first | exact cMove rfl rfl | exact cNot rfl rfl | exact cCallX1 rfl rfl enDone (fun W hb => done_t (hS.below hb) hk) | exact cCallX1 rfl rfl enRounds (fun W hb => rounds_ret (hS.below hb)) | exact OpOk.b (c := false) (cGtr rfl rfl rfl) (decide_eq_false (by omega)) | exact cPickF rfl rfl rfl)); rotate_left))
  intro a w9 hF hb hN
  have hBs := hB.size
  replace hB := hB.trans (hb.mono hB.size)
  dsimp only [ext, Option.getD] at hF
  repeat with_reducible refine nThen ?_
  replace hS := hS.below hb
  refine cond_f hF rfl ?_
  repeat with_reducible first | refine wp_seq ?_ | refine nThen ?_ | refine wp_skip ?_
  have hlT : s.theirs.length ≤ 1000000 := by omega
  have hlO : s.ours.length ≤ 1000000 := by omega
  refine' reg_all hF ?_ mixed (by kernel_rfl) ?_
  rotate_left
  · repeat (first | exact Line.nil | ((refine' Line.cons rfl (.run rfl rfl ?_) ?_); (any_goals (first | exact cMove rfl rfl | exact cAssign rfl rfl | exact cCallX1 rfl rfl enTheirs (fun W hb => theirs_ret (hS.below hb) hlT) | exact cCallX1 rfl rfl enOurs (fun W hb => ours_ret (hS.below hb) hlO) | exact cCallS2 rfl (.t rfl) (.t rfl) hMi | exact cCallS2 rfl (Has.c (.t rfl) seg_sl) (.t rfl) hEi)); rotate_left))
  intro a w10 hF hb hN
  have hBs := hB.size
  replace hB := hB.trans (hb.mono hB.size)
  dsimp only [ext, Option.getD] at hF
  repeat with_reducible first | refine wp_seq ?_ | refine nThen ?_
  replace hS := hS.below hb
  replace hF := hF.as hF (s := 13) (σ := Ty.sums 28 (setL (minusL M s.ours ++ s.theirs))) rfl (fun v hv => seg_sl _ _ hv)
  have hTe := tell_ty (setL (minusL M s.ours ++ s.theirs)) (by omega)
  have eT : shaS (byL (setL (setL (minusL M s.ours ++ s.theirs)))) = tellS (setL (minusL M s.ours ++ s.theirs)) := rfl
  rw [eT] at hTe
  have hTy := tell_ty Y (by omega)
  have eY : shaS (byL (setL Y)) = tellS Y := rfl
  rw [eY] at hTy
  have hSa := same_ty (setL (minusL M s.ours ++ s.theirs)) Y (by omega) (by omega)
  clear eT eY hMi hEi
  generalize setL (minusL M s.ours ++ s.theirs) = E1 at *
  cases hsame : sameL E1 Y with
  | false =>
    rw [hsame] at hSa
    refine' reg_all hF ?_ mixed (by kernel_rfl) ?_
    rotate_left
    · repeat (first | exact Line.nil | ((refine' Line.cons rfl (.run rfl rfl ?_) ?_); (any_goals (first | exact cMove rfl rfl | exact cCallH2 rfl (.t rfl) (.t rfl) hSa)); rotate_left))
    intro a w11 hF hb hN
    have hBs := hB.size
    replace hB := hB.trans (hb.mono hB.size)
    dsimp only [ext, Option.getD] at hF
    repeat with_reducible refine nThen ?_
    refine cond_f hF rfl ?_
    repeat with_reducible first | refine wp_seq ?_ | refine nThen ?_ | refine wp_skip ?_
    refine' reg_all hF ?_ mixed (by kernel_rfl) ?_
    rotate_left
    · repeat (first | exact Line.nil | ((refine' Line.cons rfl (.run rfl rfl ?_) ?_); (any_goals (first | exact cMove rfl rfl | exact cAssign rfl rfl | exact cCallH1 rfl (.t rfl) hTe | exact cCallH1 rfl (.t rfl) hTy | exact OpOk.b (c := true) (cEqlAgg rfl rfl rfl guardS (eqlS _ _)) (decide_eq_true htl))); rotate_left))
    intro a w12 hF hb hN
    have hBs := hB.size
    replace hB := hB.trans (hb.mono hB.size)
    dsimp only [ext, Option.getD] at hF
    repeat with_reducible first | refine nThen ?_ | refine wp_ret ?_
    refine ret1 hF rfl rfl fun z hz => ?_
    exact ⟨by rw [show z = .bool true from hz], hB⟩
  | true =>
    rw [hsame] at hSa
    obtain ⟨q1, q2⟩ := hSm (sameL_is hsame)
    have l1 := minusL_len Y M
    have l2 := minusL_len M Y
    have hm1 := minus_ty Y M (by omega) (by omega)
    have hm2 := minus_ty M Y (by omega) (by omega)
    have hs1 := same_ty s.theirs (minusL Y M) (by omega) (by omega)
    rw [q1, sameL_true (minusL_srt _ _) (by omega) rfl] at hs1
    have hs2 := same_ty s.ours (minusL M Y) (by omega) (by omega)
    rw [q2, sameL_true (minusL_srt _ _) (by omega) rfl] at hs2
    rw [← q1] at hs1
    rw [← q2] at hs2
    refine' reg_all hF ?_ mixed (by kernel_rfl) ?_
    rotate_left
    · repeat (first | exact Line.nil | ((refine' Line.cons rfl (.run rfl rfl ?_) ?_); (any_goals (first | exact cMove rfl rfl | exact cCallH2 rfl (.t rfl) (.t rfl) hSa)); rotate_left))
    intro a w11 hF hb hN
    have hBs := hB.size
    replace hB := hB.trans (hb.mono hB.size)
    dsimp only [ext, Option.getD] at hF
    repeat with_reducible refine nThen ?_
    replace hS := hS.below hb
    refine cond_t hF rfl ?_
    repeat with_reducible refine wp_seq ?_
    rw [← q1] at hm1
    rw [← q2] at hm2
    refine' reg_all hF ?_ mixed (by kernel_rfl) ?_
    rotate_left
    · repeat (first | exact Line.nil | ((first | refine' Line.cons rfl (.run rfl rfl ?_) ?_ | refine' Line.cons rfl (.yes rfl rfl rfl rfl ?_) ?_); (any_goals (first | exact cMove rfl rfl | exact cAssign rfl rfl | exact cCallX1 rfl rfl enTheirs (fun W hb => theirs_ret (hS.below hb) hlT) | exact cCallX1 rfl rfl enOurs (fun W hb => ours_ret (hS.below hb) hlO) | exact cCallS2 rfl (.t rfl) (.t rfl) hm1 | exact cCallS2 rfl (.t rfl) (.t rfl) hm2 | exact cCallH2 rfl (.t rfl) (Has.c (.t rfl) seg_sl) hs1 | exact cCallH2 rfl (.t rfl) (Has.c (.t rfl) seg_sl) hs2 | exact cPickT rfl rfl rfl)); rotate_left))
    intro a w12 hF hb hN
    have hBs := hB.size
    replace hB := hB.trans (hb.mono hB.size)
    dsimp only [ext, Option.getD] at hF
    repeat with_reducible first | refine nThen ?_ | refine wp_ret ?_ | refine rThen ?_
    refine ret1 hF rfl rfl fun z hz => ?_
    exact ⟨by rw [show z = .bool true from hz], hB⟩
end Go.Proofs.YtmefpnklgfhggaaGreatDoor

/- The statement ReconExactSaid is proved here: for every input the law tallyman/tallymanlaw18.ReconExact returns true, and each argument reads as before; the library's table reads as its initialiser lays it. (answered truly, what is told is just what the other one has more and less.) -/
namespace Go.Proofs.YtmefpnklgfhggaaGreatDoor.reconExact
open Go.ChangeShapes Go.WideShapes Go.ChangeAt Go.RowKit
set_option linter.unusedVariables false
theorem own : ownKnob Tryz.prog.godebug = none := by kernel_rfl
theorem laidOut : laidOutB Tryz.prog = true := by kernel_rfl
theorem gT : Tryz.prog.globalNamed "math/bits.deBruijn64tab" = some 0 := by kernel_rfl
theorem gTType : (Tryz.prog.globals[0]?).map (·.type) = some 183 := by kernel_rfl
theorem cellsE : Tryz.prog.cellsOf 5 = 1 := by kernel_rfl
theorem cellsT : Tryz.prog.cellsOf 183 = 64 := by kernel_rfl
def tabZ : List Int := Lib.deBruijn64tab.map Int.ofNat
noncomputable def laidWorld (os : Os) : World :=
  { World.holding Tryz.prog os ⟨#[], #[], []⟩ with heap := (World.holding Tryz.prog os ⟨#[], #[], []⟩).heap.modify 0 fun
      | .cells _ t frozen => .cells (tabZ.map fun z => Value.int .u8 z).toArray t frozen
      | o => o }
theorem laid_met (os : Os) (args : Array Value) : laidMet Tryz.prog Rows.reconExactRow.laid ((laidWorld os).forCall (fun _ _ => 0) ⟨#[], args, []⟩).memory :=
  laidMet_of_run' 8 (by kernel_rfl) (by kernel_rfl)
theorem witness_row (os : Os) {H : Type} (enc : TypeId × Value → H) :
    (OpenSpec.ofChange Rows.reconExactSpec).preRow enc Tryz.prog Tryz.f5 Rows.reconExactRow.domain false Rows.reconExactRow.laid ((laidWorld os).forCall (fun _ _ => 0) ⟨#[], #[.slice none 0 0, .slice none 0 0, .int .u64 0], []⟩).memory #[.slice none 0 0, .slice none 0 0, .int .u64 0] := by
  have hw : (DataW.whole enc Tryz.prog ((laidWorld os).forCall (fun _ _ => 0) ⟨#[], #[.slice none 0 0, .slice none 0 0, .int .u64 0], []⟩).memory Tryz.f5.params.toList (OpenSpec.ofChange Rows.reconExactSpec).vars false (#[.slice none 0 0, .slice none 0 0, .int .u64 0] : Array Value).toList 8).map (fun x => (x.1, x.2.1)) =
      some ([.nil, .nil, .lit (.int .u64 0)], []) := by kernel_rfl
  obtain ⟨⟨x1, x2, x3⟩, hx, hx1⟩ := Option.map_eq_some_iff.1 hw
  simp only [Prod.mk.injEq] at hx1
  obtain ⟨rfl, rfl⟩ := hx1
  exact OpenSpec.preRow_of_cond 8 hx (by kernel_rfl) (fun k hk => by cases hk) (by kernel_rfl) (laid_met os _)
theorem tab_ok {W : World} (h : Lib.TabIs Tryz.prog W "math/bits.deBruijn64tab" .u8 tabZ) : TabOk W := by
  refine ⟨⟨0, 0, none⟩, rfl, fun j v hv => ?_, by simp [Lib.deBruijn64tab]⟩
  have hj : j < Lib.deBruijn64tab.length := by have := (List.getElem?_eq_some_iff.1 hv).1; rwa [List.length_map] at this
  have hc := h.cell gT j (by unfold tabZ; rw [List.length_map]; exact hj)
  refine ⟨_, rfl, ?_⟩
  rw [show (⟨0, 0, none⟩ : Addr).add j = ⟨0, j, none⟩ by simp [Addr.add_lit], hc]
  rw [← hv]
  unfold tabZ
  generalize Lib.deBruijn64tab = L at *
  simp [List.getD, List.getElem?_eq_getElem hj, bv]
set_option maxRecDepth 100000 in
set_option maxHeartbeats 2000000 in
theorem lifted (os : Os) (started : os.Started) (H : Type) (enc : TypeId × Value → H) (F : Stop.Interp) :
    ReturnsInHanded {} Tryz.checked os 5 .any ((OpenSpec.ofChange Rows.reconExactSpec).preRow enc Tryz.prog Tryz.f5 Rows.reconExactRow.domain false Rows.reconExactRow.laid) (((OpenSpec.ofChange Rows.reconExactSpec).at F).post enc Tryz.prog Tryz.f5 false true false false) := by
  refine returnsInHanded_of_row (C := Tryz.checked) (s := OpenSpec.ofChange Rows.reconExactSpec) own started (by kernel_rfl) Tryz.func5
    (witness_row_at (enc := enc) (C := Tryz.checked) false (laidWorld os) #[.slice none 0 0, .slice none 0 0, .int .u64 0] rfl (by kernel_rfl) (by kernel_rfl) (by kernel_rfl) (witness_row os enc)) ?_
  intro W base args ds gs before hval0 hW _ hcond0 hsz0 hL hsh _
  have hval : ∀ (j : Nat) t v, Tryz.f5.params[j]? = some t → args[j]? = some v → Value.okWide Tryz.prog W .any base t v := hval0
  have hW' := hW
  obtain ⟨p, q, hA0, hV, rfl, _, _⟩ := hW
  have hA : DataW.TrodAll enc Tryz.prog W 0 (fun _ => true) true Tryz.f5.params.toList args.toList ds p := hA0
  rw [Tryz.params5] at hA hval
  obtain ⟨v0, vs0, d0, ds0, p0, q0, hargs, rfl, rfl, h0, r0⟩ := trodAll_cons hA
  obtain ⟨v1, vs1, d1, ds1, p1, q1, rfl, rfl, rfl, h1, r1⟩ := trodAll_cons r0
  obtain ⟨v2, vs2, d2, ds2, p2, q2, rfl, rfl, rfl, h2, r2⟩ := trodAll_cons r1
  obtain ⟨rfl, rfl, rfl⟩ := trodAll_nil r2
  obtain rfl : args = #[v0, v1, v2] := by cases args; simp_all
  obtain ⟨rfl, rfl⟩ := trodVars_none hV
  obtain ⟨a0, len0, cap0, rfl⟩ := okWide_slice Tryz.underlying33 (hval 0 33 v0 rfl rfl)
  have lt0 : ∀ x ∈ p0, x.block < W.heap.size := by obtain ⟨m, hm⟩ := h0; exact DataW.trod_lt m _ _ _ hm
  obtain ⟨l0, hl0, hlc0, hn0, hr0, hN0, hx0⟩ := row_ints Tryz.underlying33 Tryz.underlying3 (by kernel_rfl) h0
  obtain ⟨a1, len1, cap1, rfl⟩ := okWide_slice Tryz.underlying33 (hval 1 33 v1 rfl rfl)
  have lt1 : ∀ x ∈ p1, x.block < W.heap.size := by obtain ⟨m, hm⟩ := h1; exact DataW.trod_lt m _ _ _ hm
  obtain ⟨l1, hl1, hlc1, hn1, hr1, hN1, hx1⟩ := row_ints Tryz.underlying33 Tryz.underlying3 (by kernel_rfl) h1
  obtain ⟨z2, rfl, rfl, rfl, w2⟩ := open_int Tryz.underlying31 (hval 2 31 v2 rfl rfl) h2
  have b2 := nat_of_wf w2
  simp only [IntKind.min, IntKind.max, IntKind.signed, IntKind.bits] at b2
  obtain ⟨a2, rfl⟩ := Int.eq_ofNat_of_zero_le (show 0 ≤ z2 by simpa using b2.1)
  have htab : Lib.TabIs Tryz.prog W "math/bits.deBruijn64tab" .u8 tabZ := Lib.tabIs_of_head gT gTType Tryz.underlying183 Tryz.underlying5 cellsE cellsT hL
  clear hA0 hval0 hsz0
  refine (lawReconExact_any l0 l1 a2 (by omega) (ints_rdA hl0 hn0 hN0 hr0) (ints_rdA hl1 hn1 hN1 hr1) (tab_ok htab)).mono fun e W' ⟨he, bel⟩ => ?_
  subst he
  exact ⟨_, rfl, _, _, _, [], _, [], hW', trodAll_mk1 (shut_bool Tryz.underlying4 _), (trodAll_cons_mk (Below.trod laidOut (by kernel_rfl) (of_decide_eq_true (by kernel_rfl)) h0 bel lt0) (trodAll_cons_mk (Below.trod laidOut (by kernel_rfl) (of_decide_eq_true (by kernel_rfl)) h1 bel lt1) (trodAll_cons_mk (shut_int Tryz.underlying31 w2) trodAll_mk0))), rfl, bel.frame _, fun h => by cases h⟩
theorem over : Rows.reconExactRow.holds Tryz.pinned (OpenSpec.ofChange Rows.reconExactSpec) :=
  OpenClaim.holds_of_cond 5 Tryz.f5 rfl rfl rfl rfl rfl rfl rfl ⟨rfl, rfl, rfl, rfl, rfl⟩ rfl rfl rfl rfl rfl (by kernel_rfl) Tryz.func5 (by kernel_rfl)
    (of_decide_eq_true (by kernel_rfl)) (by unfold Func.isWrapper; first | (rw [if_pos (by decide +kernel)]; kernel_rfl) | (rw [if_neg (by decide +kernel)]; exact ⟨rfl, rfl⟩))
    (fun os started H enc _ F0 => by rw [OpenClaim.pre_eq_preRow]; exact lifted os started H enc F0)
end Go.Proofs.YtmefpnklgfhggaaGreatDoor.reconExact
namespace Go.Proofs.YtmefpnklgfhggaaGreatDoor
theorem reconExact_holds : Rows.ReconExactSaid := reconExact.over
#print axioms reconExact_holds
end Go.Proofs.YtmefpnklgfhggaaGreatDoor
