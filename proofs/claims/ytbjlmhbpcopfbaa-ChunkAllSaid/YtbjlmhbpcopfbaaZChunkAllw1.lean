/- Joined: ChunkF. -/
import Derived.Test.YtbjlmhbpcopfbaaZChunk3
/- Chunks: chunk.All; the walk of ChunkAll. -/
namespace Go.Proofs.Ytbjlmhbpcopfbaa
open Go.RowKit

def nmsB (b : List Nat) : List Sm := nmsQ (cutQ b)
/-- All names of all. -/
def allN (Ps : List (List Nat)) : List Sm := (Ps.map nmsB).flatten
theorem nmsB_len (b : List Nat) : (nmsB b).length = (pcsB b).length := by unfold nmsB nmsQ cutQ; rw [List.length_map, List.length_map]
theorem allN_succ (Ps : List (List Nat)) {k : Nat} (h : k < Ps.length) : allN (Ps.take (k + 1)) = allN (Ps.take k) ++ nmsB (Ps.getD k []) := by
  unfold allN
  rw [takeB_snoc Ps h, List.map_append, List.flatten_append]
  simp
theorem vs_drop {vs : List Value} {k : Nat} (h : k < vs.length) : vs.drop (k * 1) = vs.getD k nilB :: vs.drop (k + 1) := by
  rw [Nat.mul_one, List.drop_eq_getElem_cons h]
  simp [List.getD, List.getElem?_eq_getElem h]
theorem sizeBs : (Try.prog.info? 22).map (·.size) = some 1 := by kernel_rfl
set_option maxRecDepth 100000 in
set_option maxHeartbeats 2000000 in
theorem call_ty (Ps : List (List Nat)) (h4 : ∀ p ∈ Ps, p.length ≤ 4000) (hl : Ps.length ≤ 100) (hx : ∀ p ∈ Ps, ∀ x ∈ p, x < 256) : Fn1 Try.prog 20 (Ty.blsR Ps) (Ty.sums 27 (setL (allN Ps))) := by
  refine ⟨fun args w => by kernel_rfl, fun w v hv => ?_⟩
  refine enter_ty 19 [Ty.ex v] Try.func20 rfl (by kernel_rfl) ⟨rfl, trivial⟩ fun a hF => ?_
  have hB := Below.refl w.heap.size w
  repeat with_reducible refine wp_seq ?_
  refine' reg_all hF ?_ mixed (by kernel_rfl) ?_
  rotate_left
  · repeat (first | exact Line.nil | ((refine' Line.cons rfl (.run rfl rfl ?_) ?_); (any_goals exact cAssign rfl rfl); rotate_left))
  intro a w1 hF hb hN
  have hBs := hB.size
  replace hB := hB.trans (hb.mono hB.size)
  dsimp only [ext, Option.getD] at hF
  repeat with_reducible first | refine wp_seq ?_ | refine nThen ?_
  refine' reg_all hF ?_ mixed (by kernel_rfl) ?_
  rotate_left
  · repeat (first | exact Line.nil | ((refine' Line.cons rfl (.run rfl rfl ?_) ?_); (any_goals exact cAssign rfl rfl); rotate_left))
  intro a w2 hF hb hN
  have hBs := hB.size
  replace hB := hB.trans (hb.mono hB.size)
  dsimp only [ext, Option.getD] at hF
  repeat with_reducible first | refine wp_seq ?_ | refine nThen ?_
  have hv2 := (Ty.blsR Ps).below hv hB
  refine' reg_all hF ?_ mixed (by kernel_rfl) ?_
  rotate_left
  · repeat (first | exact Line.nil | ((refine' Line.cons rfl (.run rfl rfl ?_) ?_); (any_goals (first | exact cMove rfl rfl | exact cLenH rfl (.l rfl hv2) (blsR_isSl Ps) Try.underlying57)); rotate_left))
  intro a w3 hF hb hN
  have hBs := hB.size
  replace hB := hB.trans (hb.mono hB.size)
  dsimp only [ext, Option.getD] at hF
  repeat with_reducible first | refine nThen ?_ | refine wp_block ?_
  have hv3 := (Ty.blsR Ps).below hv hB
  obtain ⟨vs, hbl, hrd⟩ := hv3
  have hw3 := hB.size
  have hB0 := hB
  replace hB := Below.refl w3.heap.size w3
  refine loop_ty (fun m a wr => ∃ (k : Nat) (u : Value) (S : List Nat) (A : List Sm), k + m = Ps.length ∧ A = allN (Ps.take k) ∧ A.length ≤ 4000 * k ∧ Fr 19 [(3, Ty.ex u), (6, Ty.ex v), (7, Ty.ex (.int .i64 (Ps.length : Int))), (8, Ty.ex (.int .i64 (k : Int)))] a wr ∧ Below w3.heap.size w3 wr ∧ Seg wr 27 32 u A.length (flat A) S ∧ ∀ y ∈ S, w3.heap.size ≤ y) Ps.length ?_ ?_
  · exact ⟨0, _, [], [], by omega, rfl, by simp, hF.keep [3, 6, 7, 8], hB, Seg.nil _ _ _, by simp⟩
  clear hF hB
  rintro m a wr ⟨k, u, S, A, hk, hA, hAl, hF, hB, hseg, hS⟩
  repeat with_reducible refine wp_seq ?_
  refine' reg_all hF ?_ mixed (by kernel_rfl) ?_
  rotate_left
  · repeat (first | exact Line.nil | ((refine' Line.cons rfl (.run rfl rfl ?_) ?_); (any_goals exact cLss rfl rfl rfl); rotate_left))
  intro a w4 hF hb hN
  have hBs := hB.size
  replace hB := hB.trans (hb.mono hB.size)
  dsimp only [ext, Option.getD] at hF
  repeat with_reducible first | refine wp_seq ?_ | refine nThen ?_
  replace hseg := hseg.below hb
  refine cond_ty hF rfl (fun hlt => ?_) (fun hge => ?_)
  rotate_left
  · have hge : ¬ k < Ps.length := by have := of_decide_eq_false hge; omega
    have hkP : k = Ps.length := by omega
    rw [hkP, List.take_length] at hA
    have hO := of_ty A (by omega)
    rw [hA] at hO
    have hs : (Ty.sums 27 (allN Ps)).p w4 u := by rw [← hA]; exact hseg.sl
    repeat with_reducible first | refine wp_seq ?_ | refine nThen ?_ | refine wp_exit ?_ | refine xThen ?_ | refine xHere ?_
    refine' reg_all hF ?_ mixed (by kernel_rfl) ?_
    rotate_left
    · repeat (first | exact Line.nil | ((refine' Line.cons rfl (.run rfl rfl ?_) ?_); (any_goals (first | exact cMove rfl rfl | exact cAssign rfl rfl | exact cCallS1 rfl (.l rfl hs) hO)); rotate_left))
    intro a w5 hF hb hN
    have hBs := hB.size
    replace hB := hB.trans (hb.mono hB.size)
    dsimp only [ext, Option.getD] at hF
    repeat with_reducible first | refine nThen ?_ | refine wp_ret ?_
    refine ret1 hF rfl rfl fun z hz => ?_
    exact ⟨z, rfl, seg_sl _ _ hz, hB0.trans (hB.mono hw3)⟩
  have hlt : k < Ps.length := by have := of_decide_eq_true hlt; omega
  have hts := allN_succ Ps hlt
  have hpk := hbl.2 k hlt
  have hmem : Ps.getD k [] ∈ Ps := by rw [List.getD_eq_getElem?_getD, List.getElem?_eq_getElem hlt]; exact List.getElem_mem hlt
  have hp4 := h4 _ hmem
  have hp256 := hx _ hmem
  have hvk : k < vs.length := by rw [hbl.1]; exact hlt
  have hvd := vs_drop hvk
  generalize Ps.getD k [] = p at *
  generalize vs.getD k nilB = vk at *
  have hNm := names_ty p hp4 hp256
  have hnl : (nmsB p).length ≤ 4000 := by rw [nmsB_len]; exact Nat.le_trans (pcsB_len p) hp4
  have eN : nmsQ (cutQ p) = nmsB p := rfl
  rw [eN] at hNm
  generalize nmsB p = X at *
  have hrd4 := (Ty.rd _ _).below hrd hB
  repeat with_reducible first | refine wp_seq ?_ | refine nThen ?_ | refine wp_skip ?_ | refine wp_block ?_
  refine' reg_all hF ?_ mixed (by kernel_rfl) ?_
  rotate_left
  · repeat (first | exact Line.nil | ((refine' Line.cons rfl (.run rfl rfl ?_) ?_); (any_goals (first | exact cAssign rfl rfl | exact cIndexR (k := k) (sz := 1) rfl (.l rfl hrd4) rfl Try.underlying57 sizeBs hlt (by rw [Nat.mul_one]; exact hvk) | exact cLoad1 (u := vk) rfl (Has.c (.t rfl) (fun W v h => by rw [hvd] at h; exact h)) (pts_atR _) Try.underlying22 rfl)); rotate_left))
  intro a w5 hF hb hN
  have hBs := hB.size
  replace hB := hB.trans (hb.mono hB.size)
  dsimp only [ext, Option.getD] at hF
  repeat with_reducible refine nThen ?_
  replace hseg := hseg.below hb
  have hpv := (Ty.rdB p).below hpk hB
  refine' region_ty 3 mixed (by kernel_rfl) hF ?_ ?_
  rotate_left
  · simp only [List.take_succ_cons, List.take_zero]
    repeat (first | exact Line.nil | ((refine' Line.cons rfl (.run rfl rfl ?_) ?_); (any_goals (first | exact cMove rfl rfl | exact cCallH1 rfl (.l rfl hpv) hNm)); rotate_left))
  intro a w6 hF hb hN
  have hBs := hB.size
  replace hB := hB.trans (hb.mono hB.size)
  simp only [List.take_succ_cons, List.take_zero, List.drop_succ_cons, List.drop_zero] at hF hN ⊢
  dsimp only [ext, Option.getD] at hF
  replace hseg := hseg.below hb
  refine tlAppend (Δ := [(6, Ty.ex v), (7, Ty.ex (.int .i64 (Ps.length : Int))), (8, Ty.ex (.int .i64 (k : Int)))]) (n := A.length) (m := X.length) (news := flat X) hF rfl rfl rfl rfl Try.underlying35 infoS zero32_size rfl hseg (.t rfl) sl_news (flat_len _) flat_one' (by simp [maxLen]; omega) (by omega) (hF.keep [6, 7, 8]) rfl ?_
  intro a w7 u' S' hF hseg' hk7 hS'
  have hbS : ∀ y ∈ S', w3.heap.size ≤ y := own_next hB hS hS'
  replace hB := below_own hB hk7 hS
  rw [← flat_append, ← List.length_append] at hseg'
  refine' tlOp hF rfl rfl rfl ?_ ?_
  rotate_left
  · exact cAssign rfl rfl
  intro a w8 hF hb
  have hBs := hB.size
  replace hB := hB.trans (hb.mono hB.size)
  try (refine wpList_nil ?_)
  repeat with_reducible first | refine nThen ?_ | refine nBlk ?_
  replace hseg' := hseg'.below hb
  refine' reg_all hF ?_ mixed (by kernel_rfl) ?_
  rotate_left
  · repeat (first | exact Line.nil | ((refine' Line.cons rfl (.run rfl rfl ?_) ?_); (any_goals (first | exact cMove rfl rfl | exact cAdd (r := ((k + 1 : Nat) : Int)) rfl rfl rfl (by omega))); rotate_left))
  intro a w9 hF hb hN
  have hBs := hB.size
  replace hB := hB.trans (hb.mono hB.size)
  dsimp only [ext, Option.getD] at hF
  repeat with_reducible refine nThen ?_
  exact ⟨m - 1, by omega, k + 1, u', S', A ++ X, by omega, by rw [hts, hA], by rw [List.length_append]; omega, hF.keep [3, 6, 7, 8], hB, hseg'.below hb, hbS⟩
theorem setL_step (A X : List Sm) : setL (setL A ++ setL X) = setL (A ++ X) := srt_ext (setL_srt _) (setL_srt _) fun x => by
  rw [setL_mem, setL_mem, List.mem_append, List.mem_append, setL_mem, setL_mem]
theorem allN_few : ∀ (Ps : List (List Nat)), (∀ p ∈ Ps, p.length ≤ 500) → (allN Ps).length ≤ 32 * Ps.length
  | [], _ => by simp [allN]
  | p :: Ps, h => by
    have h1 := allN_few Ps fun q hq => h q (List.mem_cons_of_mem _ hq)
    have h2 := h p (List.mem_cons_self ..)
    have h3 := pcsB_few p
    have e : allN (p :: Ps) = nmsB p ++ allN Ps := rfl
    rw [e, List.length_append, nmsB_len, List.length_cons]
    omega
set_option maxRecDepth 100000 in
set_option maxHeartbeats 2000000 in
theorem lawChunkAll_any (Ps : List (List Nat)) {W : World} {v0 : Value} (h0 : (Ty.blsR Ps).p W v0) (hx : ∀ p ∈ Ps, ∀ x ∈ p, x < 256) : Calls Try.prog 6 #[v0] W fun e w' => e = .returned (.bool true) ∧ Below W.heap.size W w' := by
  refine enter_ty 35 [Ty.ex v0] Try.func6 rfl (by kernel_rfl) ⟨rfl, trivial⟩ fun a hF => ?_
  have hB := Below.refl W.heap.size W
  repeat with_reducible refine wp_seq ?_
  refine' reg_all hF ?_ mixed (by kernel_rfl) ?_
  rotate_left
  · repeat (first | exact Line.nil | ((refine' Line.cons rfl (.run rfl rfl ?_) ?_); (any_goals exact cAssign rfl rfl); rotate_left))
  intro a w1 hF hb hN
  have hBs := hB.size
  replace hB := hB.trans (hb.mono hB.size)
  dsimp only [ext, Option.getD] at hF
  repeat with_reducible first | refine wp_seq ?_ | refine nThen ?_
  refine' reg_all hF ?_ mixed (by kernel_rfl) ?_
  rotate_left
  · repeat (first | exact Line.nil | ((refine' Line.cons rfl (.run rfl rfl ?_) ?_); (any_goals (first | exact cNot rfl rfl | exact cCall0 rfl awake11_ty)); rotate_left))
  intro a w2 hF hb hN
  have hBs := hB.size
  replace hB := hB.trans (hb.mono hB.size)
  dsimp only [ext, Option.getD] at hF
  repeat with_reducible refine nThen ?_
  refine cond_f hF rfl ?_
  repeat with_reducible first | refine wp_seq ?_ | refine nThen ?_ | refine wp_skip ?_
  have k0 := (Ty.blsR Ps).below h0 hB
  by_cases hl8 : Ps.length ≤ 8
  rotate_left
  · refine' reg_all hF ?_ mixed (by kernel_rfl) ?_
    rotate_left
    · repeat (first | exact Line.nil | ((refine' Line.cons rfl (.run rfl rfl ?_) ?_); (any_goals (first | exact cMove rfl rfl | exact cLenH rfl (.l rfl k0) (blsR_isSl Ps) Try.underlying57 | exact OpOk.b (c := true) (cGtr rfl rfl rfl) (decide_eq_true (by omega)))); rotate_left))
    intro a w3 hF hb hN
    have hBs := hB.size
    replace hB := hB.trans (hb.mono hB.size)
    dsimp only [ext, Option.getD] at hF
    repeat with_reducible refine nThen ?_
    refine cond_t hF rfl ?_
    repeat with_reducible refine wp_seq ?_
    refine' reg_all hF ?_ mixed (by kernel_rfl) ?_
    rotate_left
    · repeat (first | exact Line.nil | ((refine' Line.cons rfl (.run rfl rfl ?_) ?_); (any_goals exact cAssign rfl rfl); rotate_left))
    intro a w4 hF hb hN
    have hBs := hB.size
    replace hB := hB.trans (hb.mono hB.size)
    dsimp only [ext, Option.getD] at hF
    repeat with_reducible first | refine nThen ?_ | refine wp_ret ?_ | refine rThen ?_
    refine ret1 hF rfl rfl fun z hz => ?_
    exact ⟨by rw [show z = .bool true from hz], hB⟩
  refine' reg_all hF ?_ mixed (by kernel_rfl) ?_
  rotate_left
  · repeat (first | exact Line.nil | ((refine' Line.cons rfl (.run rfl rfl ?_) ?_); (any_goals (first | exact cMove rfl rfl | exact cLenH rfl (.l rfl k0) (blsR_isSl Ps) Try.underlying57 | exact OpOk.b (c := false) (cGtr rfl rfl rfl) (decide_eq_false (by omega)))); rotate_left))
  intro a w3 hF hb hN
  have hBs := hB.size
  replace hB := hB.trans (hb.mono hB.size)
  dsimp only [ext, Option.getD] at hF
  repeat with_reducible refine nThen ?_
  refine cond_f hF rfl ?_
  repeat with_reducible first | refine wp_seq ?_ | refine nThen ?_ | refine wp_skip ?_
  refine' reg_all hF ?_ mixed (by kernel_rfl) ?_
  rotate_left
  · repeat (first | exact Line.nil | ((refine' Line.cons rfl (.run rfl rfl ?_) ?_); (any_goals (first | exact cAssign rfl rfl | exact cBuild0 rfl Try.underlying51 infoS)); rotate_left))
  intro a w4 hF hb hN
  have hBs := hB.size
  replace hB := hB.trans (hb.mono hB.size)
  dsimp only [ext, Option.getD] at hF
  repeat with_reducible first | refine wp_seq ?_ | refine nThen ?_
  refine' reg_all hF ?_ mixed (by kernel_rfl) ?_
  rotate_left
  · repeat (first | exact Line.nil | ((refine' Line.cons rfl (.run rfl rfl ?_) ?_); (any_goals exact cAssign rfl rfl); rotate_left))
  intro a w5 hF hb hN
  have hBs := hB.size
  replace hB := hB.trans (hb.mono hB.size)
  dsimp only [ext, Option.getD] at hF
  repeat with_reducible first | refine nThen ?_ | refine wp_block ?_
  obtain ⟨vs, hbl, hrd⟩ := id h0
  have hs0 : setL [] = [] := setL_self List.Pairwise.nil
  refine loop_ty (fun m a wr => ∃ (k : Nat) (A : List Sm), k + m = Ps.length ∧ A = allN (Ps.take k) ∧ (∀ i, i < k → (Ps.getD i []).length ≤ 500) ∧ A.length ≤ 1000 * k ∧ Fr 35 [(3, Ty.sums 27 (setL A)), (0, Ty.ex v0), (4, Ty.ex (.int .i64 (k : Int)))] a wr ∧ Below W.heap.size W wr) Ps.length ?_ ?_
  · refine ⟨0, [], by omega, rfl, fun i hi => by omega, by simp, ?_, hB⟩
    rw [hs0]
    exact hF.as (hF.keep [0, 4]) (s := 3) rfl (fun v hv => seg_sl _ _ hv)
  clear hF hB
  rintro m a wr ⟨k, A, hk, hA, h5, hAl, hF, hB⟩
  have k0 := (Ty.blsR Ps).below h0 hB
  repeat with_reducible refine wp_seq ?_
  refine' reg_all hF ?_ mixed (by kernel_rfl) ?_
  rotate_left
  · repeat (first | exact Line.nil | ((refine' Line.cons rfl (.run rfl rfl ?_) ?_); (any_goals (first | exact cMove rfl rfl | exact cLenH rfl (.l rfl k0) (blsR_isSl Ps) Try.underlying57 | exact cLss rfl rfl rfl)); rotate_left))
  intro a w6 hF hb hN
  have hBs := hB.size
  replace hB := hB.trans (hb.mono hB.size)
  dsimp only [ext, Option.getD] at hF
  repeat with_reducible refine nThen ?_
  refine cond_ty hF rfl (fun hlt => ?_) (fun hge => ?_)
  rotate_left
  · have hge : ¬ k < Ps.length := by have := of_decide_eq_false hge; omega
    have hkP : k = Ps.length := by omega
    have h500 : ∀ p ∈ Ps, p.length ≤ 500 := fun p hp => by
      obtain ⟨i, hi, rfl⟩ := List.getElem_of_mem hp
      have := h5 i (by omega)
      simpa [List.getD, List.getElem?_eq_getElem hi] using this
    rw [hkP, List.take_length] at hA
    subst hA
    have hAll := call_ty Ps (fun p hp => by have := h500 p hp; omega) (by omega) hx
    have hfew := allN_few Ps h500
    have hlen := setL_len (allN Ps)
    have hsrt := setL_srt (allN Ps)
    have hk0 := (Ty.blsR Ps).below h0 hB
    generalize setL (allN Ps) = X at *
    have hsame := same_ty X X (by omega) (by omega)
    have hg : sameL X X = true := by
      unfold sameL
      rw [(goodL_iff X).2 ⟨hsrt, by omega⟩]
      simp
    rw [hg] at hsame
    repeat with_reducible first | refine wp_seq ?_ | refine nThen ?_ | refine wp_exit ?_ | refine xThen ?_ | refine xHere ?_
    refine' reg_all hF ?_ mixed (by kernel_rfl) ?_
    rotate_left
    · repeat (first | exact Line.nil | ((refine' Line.cons rfl (.run rfl rfl ?_) ?_); (any_goals (first | exact cMove rfl rfl | exact cAssign rfl rfl | exact cCallH1 rfl (.l rfl hk0) hAll | exact cCallH2 rfl (.t rfl) (.t rfl) hsame)); rotate_left))
    intro a w7 hF hb hN
    have hBs := hB.size
    replace hB := hB.trans (hb.mono hB.size)
    dsimp only [ext, Option.getD] at hF
    repeat with_reducible first | refine nThen ?_ | refine wp_ret ?_
    refine ret1 hF rfl rfl fun z hz => ?_
    exact ⟨by rw [show z = .bool true from hz], hB⟩
  have hlt : k < Ps.length := by have := of_decide_eq_true hlt; omega
  have hts := allN_succ Ps hlt
  have hpk := hbl.2 k hlt
  have hmem : Ps.getD k [] ∈ Ps := by rw [List.getD_eq_getElem?_getD, List.getElem?_eq_getElem hlt]; exact List.getElem_mem hlt
  have hp256 := hx _ hmem
  have hvk : k < vs.length := by rw [hbl.1]; exact hlt
  have hvd := vs_drop hvk
  have h5' : (Ps.getD k []).length ≤ 500 → ∀ i, i < k + 1 → (Ps.getD i []).length ≤ 500 := fun h i hi => by
    by_cases e : i = k
    · rw [e]; exact h
    · exact h5 i (by omega)
  generalize hp : Ps.getD k [] = p at *
  generalize vs.getD k nilB = vk at *
  have hrd4 := (Ty.rd _ _).below hrd hB
  have hpv := (Ty.rdB p).below hpk hB
  repeat with_reducible first | refine wp_seq ?_ | refine nThen ?_ | refine wp_skip ?_ | refine wp_block ?_
  by_cases hp5 : p.length ≤ 500
  rotate_left
  · refine' reg_all hF ?_ mixed (by kernel_rfl) ?_
    rotate_left
    · repeat (first | exact Line.nil | ((refine' Line.cons rfl (.run rfl rfl ?_) ?_); (any_goals (first | exact cMove rfl rfl | exact cLenH rfl (.l rfl hpv) (rdB_isSl p) Try.underlying22 | exact OpOk.b (c := true) (cGtr rfl rfl rfl) (decide_eq_true (by omega)) | exact cIndexR (k := k) (sz := 1) rfl (.l rfl hrd4) rfl Try.underlying57 sizeBs hlt (by rw [Nat.mul_one]; exact hvk) | exact cLoad1 (u := vk) rfl (Has.c (.t rfl) (fun W v h => by rw [hvd] at h; exact h)) (pts_atR _) Try.underlying22 rfl)); rotate_left))
    intro a w7 hF hb hN
    have hBs := hB.size
    replace hB := hB.trans (hb.mono hB.size)
    dsimp only [ext, Option.getD] at hF
    repeat with_reducible refine nThen ?_
    refine cond_t hF rfl ?_
    repeat with_reducible refine wp_seq ?_
    refine' reg_all hF ?_ mixed (by kernel_rfl) ?_
    rotate_left
    · repeat (first | exact Line.nil | ((refine' Line.cons rfl (.run rfl rfl ?_) ?_); (any_goals exact cAssign rfl rfl); rotate_left))
    intro a w8 hF hb hN
    have hBs := hB.size
    replace hB := hB.trans (hb.mono hB.size)
    dsimp only [ext, Option.getD] at hF
    repeat with_reducible first | refine nThen ?_ | refine wp_ret ?_ | refine rThen ?_ | refine rBlk ?_
    refine ret1 hF rfl rfl fun z hz => ?_
    exact ⟨by rw [show z = .bool true from hz], hB⟩
  refine' reg_all hF ?_ mixed (by kernel_rfl) ?_
  rotate_left
  · repeat (first | exact Line.nil | ((refine' Line.cons rfl (.run rfl rfl ?_) ?_); (any_goals (first | exact cMove rfl rfl | exact cLenH rfl (.l rfl hpv) (rdB_isSl p) Try.underlying22 | exact OpOk.b (c := false) (cGtr rfl rfl rfl) (decide_eq_false (by omega)) | exact cIndexR (k := k) (sz := 1) rfl (.l rfl hrd4) rfl Try.underlying57 sizeBs hlt (by rw [Nat.mul_one]; exact hvk) | exact cLoad1 (u := vk) rfl (Has.c (.t rfl) (fun W v h => by rw [hvd] at h; exact h)) (pts_atR _) Try.underlying22 rfl)); rotate_left))
  intro a w7 hF hb hN
  have hBs := hB.size
  replace hB := hB.trans (hb.mono hB.size)
  dsimp only [ext, Option.getD] at hF
  repeat with_reducible refine nThen ?_
  refine cond_f hF rfl ?_
  have hNm := names_ty p (by omega) hp256
  have hnl : (nmsB p).length ≤ 500 := by rw [nmsB_len]; exact Nat.le_trans (pcsB_len p) hp5
  have eN : nmsQ (cutQ p) = nmsB p := rfl
  rw [eN] at hNm
  generalize nmsB p = X at *
  have hO := of_ty X (by omega)
  have hE := either_ty (setL A) (setL X) (by have := setL_len A; omega) (by have := setL_len X; omega)
  rw [setL_step] at hE
  have hrd4 := (Ty.rd _ _).below hrd hB
  have hpv := (Ty.rdB p).below hpk hB
  repeat with_reducible first | refine nThen ?_ | refine wp_skip ?_
  refine' reg_all hF ?_ mixed (by kernel_rfl) ?_
  rotate_left
  · repeat (first | exact Line.nil | ((refine' Line.cons rfl (.run rfl rfl ?_) ?_); (any_goals (first | exact cMove rfl rfl | exact cAssign rfl rfl | exact cCallH1 rfl (.l rfl hpv) hNm | exact cCallS1 rfl (.t rfl) hO | exact cCallS2 rfl (.t rfl) (Has.c (.t rfl) seg_sl) hE | exact cIndexR (k := k) (sz := 1) rfl (.l rfl hrd4) rfl Try.underlying57 sizeBs hlt (by rw [Nat.mul_one]; exact hvk) | exact cLoad1 (u := vk) rfl (Has.c (.t rfl) (fun W v h => by rw [hvd] at h; exact h)) (pts_atR _) Try.underlying22 rfl)); rotate_left))
  intro a w8 hF hb hN
  have hBs := hB.size
  replace hB := hB.trans (hb.mono hB.size)
  dsimp only [ext, Option.getD] at hF
  repeat with_reducible first | refine nThen ?_ | refine nBlk ?_
  refine' reg_all hF ?_ mixed (by kernel_rfl) ?_
  rotate_left
  · repeat (first | exact Line.nil | ((refine' Line.cons rfl (.run rfl rfl ?_) ?_); (any_goals (first | exact cMove rfl rfl | exact cAssign rfl rfl | exact cAdd (r := ((k + 1 : Nat) : Int)) rfl rfl rfl (by omega))); rotate_left))
  intro a w9 hF hb hN
  have hBs := hB.size
  replace hB := hB.trans (hb.mono hB.size)
  dsimp only [ext, Option.getD] at hF
  repeat with_reducible refine nThen ?_
  exact ⟨m - 1, by omega, k + 1, A ++ X, by omega, by rw [hts, hA], h5' hp5, by rw [List.length_append]; omega, hF.as (hF.keep [0, 4]) (s := 3) rfl (fun v hv => seg_sl _ _ hv), hB⟩
end Go.Proofs.Ytbjlmhbpcopfbaa
