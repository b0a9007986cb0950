/- Joined: TabE, TabF, LaysS, SetF, SetG, SetP, PlaceH, TabG, TabH, PlaceI, PlaceJ, PlaceK, TabI, TabJ, TabK, TabL, SetH, SetI, SetJ, SetK, TabM, PeelP, PeelQ, TabN, TabR, PeelR, PeelS, StraP, PeelM, PeelN, PeelA. -/
import Derived.Test.YtmefpnklgfhggaaGreatDoorProg
import Derived.Shelf.SlGeneric
import Derived.Shelf.SlSortCmp.NoneTotal
import Derived.Ground.SlsfProg
import Derived.KernelRfl
import Derived.Deep.QuietTactic
import Derived.BigQuiet
import Derived.Lib.SlBytesConst
import Derived.Maps.Own
import Derived.Maps.Views
import Derived.DeepKeys4
import Derived.Test.YtmefpnklgfhggaaGreatDoorZReconKnownCard2
/- Layer 15 by types: Minus. -/
namespace Go.Proofs.YtmefpnklgfhggaaGreatDoor
open Go.RowKit

/-- May one be taken from the other? -/
def minOk (sa sb : Nat) (A B : List Cl) : Bool := goodN (A.length : Int) && (decide (A.length = B.length) && decide (sa = sb))
def minL (sa sb : Nat) (A B : List Cl) : List Cl := if minOk sa sb A B then tminus A B else []
def minS (sa sb : Nat) (A B : List Cl) : Nat := if minOk sa sb A B then sa else 0
def minE (sa sb : Nat) (A B : List Cl) : Value := .int .i64 (if minOk sa sb A B then 0 else 1)
/-- A less B in the first i cells. -/
def mixM (A B : List Cl) (i : Nat) : List Cl := (tminus A B).take i ++ A.drop i
theorem mixM_len {A B : List Cl} (h : A.length = B.length) (i : Nat) : (mixM A B i).length = A.length := by
  unfold mixM
  rw [List.length_append, List.length_take, List.length_drop, tminus_len h]
  omega
theorem mixM_get {A B : List Cl} (h : A.length = B.length) {i : Nat} (hi : i < A.length) : (mixM A B i).getD i default = A.getD i default := by
  unfold mixM
  have hl : ((tminus A B).take i).length = i := by rw [List.length_take, tminus_len h]; omega
  simp only [List.getD]
  rw [List.getElem?_append_right (by omega), hl, Nat.sub_self, List.getElem?_drop]
  rfl
theorem mixM_set {A B : List Cl} (h : A.length = B.length) {i : Nat} (hi : i < A.length) : (mixM A B i).set i ((A.getD i default).minus (B.getD i default)) = mixM A B (i + 1) := by
  apply list_extD
  · rw [List.length_set, mixM_len h, mixM_len h]
  · intro j hj
    rw [List.length_set, mixM_len h] at hj
    have hm : ∀ k, j < k → k ≤ A.length → (mixM A B k).getD j default = (tminus A B).getD j default := fun k hk hkl => by
      unfold mixM
      simp only [List.getD]
      rw [List.getElem?_append_left (by rw [List.length_take, tminus_len h]; omega), List.getElem?_take, if_pos hk]
    have ha : ∀ k, k ≤ j → (mixM A B k).getD j default = A.getD j default := fun k hk => by
      unfold mixM
      have hl : ((tminus A B).take k).length = k := by rw [List.length_take, tminus_len h]; omega
      simp only [List.getD]
      rw [List.getElem?_append_right (by omega), hl, List.getElem?_drop]
      congr 2
      omega
    rw [getD_set_eq _ _ (by rw [mixM_len h]; exact hj)]
    by_cases hij : i = j
    · subst hij
      rw [if_pos rfl, hm (i + 1) (by omega) (by omega), tminus_get h hj]
    · rw [if_neg hij]
      by_cases hji : j < i
      · rw [hm i hji (by omega), hm (i + 1) (by omega) (by omega)]
      · rw [ha i (by omega), ha (i + 1) (by omega)]
theorem mixM_zero (A B : List Cl) : mixM A B 0 = A := by simp [mixM]
theorem mixM_all {A B : List Cl} (h : A.length = B.length) : mixM A B A.length = tminus A B := by
  unfold mixM
  rw [List.take_of_length_le (by rw [tminus_len h]; exact Nat.le_refl _), List.drop_of_length_le (Nat.le_refl _), List.append_nil]
set_option maxRecDepth 100000 in
set_option maxHeartbeats 2000000 in
theorem tminus_ty (sa sb : Nat) (A B : List Cl) : FnR2 Tryz.prog 71 (Ty.tab 69 sa A) (Ty.tab 69 sb B) (fun w => Ty.tabE w 69 (minS sa sb A B) (minL sa sb A B) (minE sa sb A B)) := by
  refine ⟨fun args w => by kernel_rfl, fun w v u ⟨s, hv, hs⟩ ⟨s2, hu, hs2⟩ => ?_⟩
  subst hv hu
  have hG := tgood_ty sa A
  refine enter_ty 56 [Ty.ex (.agg #[.int .u64 (sa : Int), s]), Ty.ex (.agg #[.int .u64 (sb : Int), s2])] Tryz.func71 rfl (by kernel_rfl) ⟨rfl, rfl, trivial⟩ fun a hF => ?_
  have hB := Below.refl w.heap.size w
  let TA := Ty.cls 69 A
  let TB := Ty.cls 69 B
  repeat with_reducible refine wp_seq ?_
  refine' reg_all hF ?_ mixed (by kernel_rfl) ?_
  rotate_left
  · repeat (first
        | exact Line.nil
        | (refine' Line.cons rfl (.new rfl rfl (run_alloc_i infoT46) rfl) ?_; rotate_left)
        | ((refine' Line.cons rfl (.run rfl rfl ?_) ?_)
           any_goals (first | exact cAssign rfl rfl | exact cBoxTab rfl rfl)
           rotate_left))
  intro a w1 hF hb hN
  have hBs := hB.size
  replace hB := hB.trans (hb.mono hB.size)
  dsimp only [ext, Option.getD] at hF
  repeat with_reducible first | refine wp_seq ?_ | refine nThen ?_
  obtain ⟨z, ⟨g4, rfl, hg4, hb4⟩, hF⟩ := hF.open (s := 4) rfl
  have hs1 := TA.below hs hB
  have hs21 := TB.below hs2 hB
  have ht1 : (Ty.tab 69 sa A).p w1 (.agg #[.int .u64 (sa : Int), s]) := ⟨s, rfl, hs1⟩
  refine wp_mono (Q := fun e a w' => e = .normal ∧ Fr 56 [(2, Ty.at_ 40 [.int .u64 (sa : Int), s]), (3, Ty.at_ 40 [.int .u64 (sb : Int), s2]), (4, Ty.ex (.pointer (some ⟨g4, 0, none⟩))), (27, Ty.ex (.bool (!minOk sa sb A B)))] a w' ∧ Below w.heap.size w w' ∧ Blk w' g4 40 zeroT) ?_ ?_
  · unfold minOk
    by_cases h1 : goodN (A.length : Int) = true
    · rw [h1] at hG
      by_cases h2 : A.length = B.length
      · have e2 : (!decide ((A.length : Int) = (B.length : Int))) = false := by rw [decide_eq_true (by omega)]; rfl
        have e3 : (!decide ((sa : Int) = (sb : Int))) = !(goodN (A.length : Int) && (decide (A.length = B.length) && decide (sa = sb))) := by
          rw [h1, decide_eq_true h2, Bool.true_and, Bool.true_and, show decide ((sa : Int) = (sb : Int)) = decide (sa = sb) from decide_eq_decide.2 (by omega)]
        refine' reg_all hF ?_ mixed (by kernel_rfl) ?_
        rotate_left
        · repeat (first | exact Line.nil | ((first | refine' Line.cons rfl (.run rfl rfl ?_) ?_ | refine' Line.cons rfl (.yes rfl rfl rfl rfl ?_) ?_); (any_goals (first | exact cMove rfl rfl | exact cNot rfl rfl | exact cLoadT46 rfl (.t rfl) | exact cCallH1 rfl (.l rfl ht1) hG | exact cFldL46 rfl (.t rfl) | exact cRowOf46 rfl (.t rfl) | exact cLenH rfl (.l rfl hs1) (Ty.sl_isSl _ _ _) Tryz.underlying38 | exact cLenH rfl (.l rfl hs21) (Ty.sl_isSl _ _ _) Tryz.underlying38 | exact cFldS46 rfl (.t rfl) | exact cLoadU64 rfl (.t rfl) | exact OpOk.b (cNeq rfl rfl rfl) e2 | exact OpOk.b (cNeq rfl rfl rfl) e3 | exact cPickF rfl rfl rfl)); rotate_left))
        intro a w2 hF hb hN
        have hBs := hB.size
        replace hB := hB.trans (hb.mono hB.size)
        dsimp only [ext, Option.getD] at hF
        exact ⟨rfl, hF.keep [2, 3, 4, 27], hB, hb4.below hb⟩
      · have e2 : (!decide ((A.length : Int) = (B.length : Int))) = true := by rw [decide_eq_false (by omega)]; rfl
        have e3 : (!(goodN (A.length : Int) && (decide (A.length = B.length) && decide (sa = sb)))) = true := by rw [decide_eq_false h2, Bool.false_and, Bool.and_false]; rfl
        rw [e3]
        refine' reg_all hF ?_ mixed (by kernel_rfl) ?_
        rotate_left
        · repeat (first | exact Line.nil | (refine' Line.cons rfl (.no rfl rfl rfl rfl rfl rfl) ?_; rotate_left) | ((first | refine' Line.cons rfl (.run rfl rfl ?_) ?_ | refine' Line.cons rfl (.yes rfl rfl rfl rfl ?_) ?_); (any_goals (first | exact cMove rfl rfl | exact cNot rfl rfl | exact cLoadT46 rfl (.t rfl) | exact cCallH1 rfl (.l rfl ht1) hG | exact cFldL46 rfl (.t rfl) | exact cRowOf46 rfl (.t rfl) | exact cLenH rfl (.l rfl hs1) (Ty.sl_isSl _ _ _) Tryz.underlying38 | exact cLenH rfl (.l rfl hs21) (Ty.sl_isSl _ _ _) Tryz.underlying38 | exact OpOk.b (cNeq rfl rfl rfl) e2 | exact cPickT rfl rfl rfl | exact cPickF rfl rfl rfl)); rotate_left))
        intro a w2 hF hb hN
        have hBs := hB.size
        replace hB := hB.trans (hb.mono hB.size)
        dsimp only [ext, Option.getD] at hF
        exact ⟨rfl, hF.keep [2, 3, 4, 27], hB, hb4.below hb⟩
    · have h1 : goodN (A.length : Int) = false := by simpa using h1
      rw [h1] at hG ⊢
      refine' reg_all hF ?_ mixed (by kernel_rfl) ?_
      rotate_left
      · repeat (first | exact Line.nil | (refine' Line.cons rfl (.no rfl rfl rfl rfl rfl rfl) ?_; rotate_left) | ((refine' Line.cons rfl (.run rfl rfl ?_) ?_); (any_goals (first | exact cMove rfl rfl | exact cNot rfl rfl | exact cLoadT46 rfl (.t rfl) | exact cCallH1 rfl (.l rfl ht1) hG | exact cPickT rfl rfl rfl)); rotate_left))
      intro a w2 hF hb hN
      have hBs := hB.size
      replace hB := hB.trans (hb.mono hB.size)
      dsimp only [ext, Option.getD] at hF
      exact ⟨rfl, hF.keep [2, 3, 4, 27], hB, hb4.below hb⟩
  clear hF hB hb4 hs1 hs21 ht1
  rintro e a w2 ⟨rfl, hF, hB, hb4⟩
  repeat with_reducible refine nThen ?_
  by_cases hok : minOk sa sb A B = true
  rotate_left
  · have hok : minOk sa sb A B = false := by simpa using hok
    have e1 : minS sa sb A B = 0 := by unfold minS; rw [hok]; rfl
    have e2 : minL sa sb A B = [] := by unfold minL; rw [hok]; rfl
    have e3 : minE sa sb A B = .int .i64 1 := by unfold minE; rw [hok]; rfl
    rw [hok] at hF
    rw [e1, e2, e3]
    refine cond_t hF rfl ?_
    repeat with_reducible refine wp_seq ?_
    refine' region_ty 1 mixed (by kernel_rfl) hF ?_ ?_
    rotate_left
    · simp only [List.take_succ_cons, List.take_zero]
      repeat (first | exact Line.nil | ((refine' Line.cons rfl (.run rfl rfl ?_) ?_); (any_goals exact cBuildE rfl (fun w => buildT046 w)); rotate_left))
    intro a w3 hF hb hN
    have hBs := hB.size
    replace hB := hB.trans (hb.mono hB.size)
    simp only [List.take_succ_cons, List.take_zero, List.drop_succ_cons, List.drop_zero] at hF hN ⊢
    dsimp only [ext, Option.getD] at hF
    replace hb4 := hb4.below hb
    refine tlStoreV (Δ := [(4, Ty.ex (.pointer (some ⟨g4, 0, none⟩)))]) hF rfl rfl rfl rfl (hF.getEx (s := 28) rfl) hb4 rfl sizeT46 (tabCells 0 _ _ _) (hF.keep [4]) rfl ?_
    intro w4 hF hb4 hkx
    replace hB := below_own hB hkx (by intro y hy; simp only [List.mem_singleton] at hy; omega)
    refine' tlOp hF rfl rfl rfl ?_ ?_
    rotate_left
    · exact cAssign rfl rfl
    intro a w5 hF hb
    have hBs := hB.size
    replace hB := hB.trans (hb.mono hB.size)
    try (refine wpList_nil ?_)
    repeat with_reducible first | refine nThen ?_ | refine wp_ret ?_ | refine rThen ?_
    replace hb4 := hb4.below hb
    refine retCell2 hF rfl rfl rfl hb4 Tryz.underlying40 rfl sizeT46 ?_
    exact ⟨_, rfl, ⟨_, rfl, _, rfl, [], Seg.nil _ _ _, by simp⟩, hB⟩
  have e1 : minS sa sb A B = sa := by unfold minS; rw [hok]; rfl
  have e2 : minL sa sb A B = tminus A B := by unfold minL; rw [hok]; rfl
  have e3 : minE sa sb A B = .int .i64 0 := by unfold minE; rw [hok]; rfl
  rw [hok] at hF
  rw [e1, e2, e3]
  clear e1 e2 e3
  unfold minOk at hok
  simp only [Bool.and_eq_true, decide_eq_true_eq] at hok
  obtain ⟨hgd, hlen, hse⟩ := hok
  subst hse
  obtain ⟨N, hN, hN1, hN2⟩ := goodN_rng hgd
  have hN : A.length = N := by omega
  refine cond_f hF rfl ?_
  repeat with_reducible first | refine wp_seq ?_ | refine nThen ?_ | refine wp_skip ?_
  obtain ⟨p2, hp2, hF⟩ := hF.open (s := 2) rfl
  obtain ⟨p3, hp3, hF⟩ := hF.open (s := 3) rfl
  have hsa := TA.below hs hB
  have hsb := TB.below hs2 hB
  have hw2 := hB.size
  have hlt4 := hb4.lt
  have hB0 := hB
  replace hB := Below.refl w2.heap.size w2
  clear hs hs2 hG
  refine' region_ty 7 mixed (by kernel_rfl) hF ?_ ?_
  rotate_left
  · simp only [List.take_succ_cons, List.take_zero]
    repeat (first
        | exact Line.nil
        | (refine' Line.cons rfl (.new rfl rfl (run_alloc_i infoT46) rfl) ?_; rotate_left)
        | ((refine' Line.cons rfl (.run rfl rfl ?_) ?_)
           any_goals (first | exact cFldS46 rfl (.l rfl hp2) | exact cLoadU64 rfl (.t rfl) | exact cFldL46 rfl (.l rfl hp2) | exact cRowOf46 rfl (.t rfl) | exact cCallS1 rfl (.l rfl hsa) (cloneC_ty A (by omega)) | exact cBuildTabO (L := A) rfl rfl rfl (fun s hs w => buildT46 _ hs w))
           rotate_left))
  intro a w3 hF hb hN
  have hBs := hB.size
  replace hB := hB.trans (hb.mono hB.size)
  simp only [List.take_succ_cons, List.take_zero, List.drop_succ_cons, List.drop_zero] at hF hN ⊢
  dsimp only [ext, Option.getD] at hF
  obtain ⟨z, ⟨s6, rfl, S, hsg, hS⟩, hF⟩ := hF.open (s := 34) rfl
  obtain ⟨g, off, cap, rfl, rfl, hsl⟩ : ∃ g off cap, s6 = .slice (some ⟨g, off, none⟩) A.length cap ∧ S = [g] ∧ SegL w3 69 65 g off A.length cap (flatC A) := by
    rcases hsg.cases with ⟨_, h0, _⟩ | h
    · omega
    · exact h
  have hg : w2.heap.size ≤ g := hS g (by simp)
  obtain ⟨z, ⟨g6, rfl, hg6, hb6⟩, hF⟩ := hF.open (s := 6) rfl
  have hg6 : w2.heap.size ≤ g6 := hg6
  refine tlStoreV (Δ := [(2, Ty.ex p2), (3, Ty.ex p3), (4, Ty.ex (.pointer (some ⟨g4, 0, none⟩))), (6, Ty.ex (.pointer (some ⟨g6, 0, none⟩)))]) hF rfl rfl rfl rfl (hF.getEx (s := 34) rfl) hb6 rfl sizeT46 (sl_one hsg.sl _) (hF.keep [2, 3, 4, 6]) rfl ?_
  intro w4 hF hb6' hkx
  refine wpList_nil ?_
  replace hB := below_own hB hkx (by intro y hy; simp only [List.mem_singleton] at hy; omega)
  have hne : g ≠ g6 := fun h => by
    subst h
    obtain ⟨cs, fr, h1⟩ := hsl.block
    unfold Blk at hb6
    rw [hb6] at h1
    simp only [Option.some.injEq, Obj.cells.injEq] at h1
    exact absurd h1.2.1 (by decide)
  replace hsl := hsl.keeps hkx (by simpa using hne)
  replace hb6 : Blk w4 g6 40 #[.int .u64 (sa : Int), .slice (some ⟨g, off, none⟩) A.length cap] := hb6'
  clear hb6'
  clear hS hsg hkx
  have hpb := (Ty.at_ 40 [.int .u64 (sa : Int), s2]).below hp3 hB
  have hsb4 := TB.below hsb hB
  repeat with_reducible first | refine wp_seq ?_ | refine nThen ?_
  refine' reg_all hF ?_ mixed (by kernel_rfl) ?_
  rotate_left
  · repeat (first | exact Line.nil | ((refine' Line.cons rfl (.run rfl rfl ?_) ?_); (any_goals (first | exact cMove rfl rfl | exact cFldL46 rfl (.l rfl hpb) | exact cRowOf46 rfl (.t rfl) | exact cLenH rfl (.l rfl hsb4) (Ty.sl_isSl _ _ _) Tryz.underlying38)); rotate_left))
  intro a w5 hF hb hN
  have hBs := hB.size
  replace hB := hB.trans (hb.mono hB.size)
  dsimp only [ext, Option.getD] at hF
  repeat with_reducible first | refine nThen ?_ | refine wp_block ?_
  replace hsl := hsl.below hb
  replace hb6 := hb6.below hb
  refine loop_ty (fun m a wr => ∃ i : Nat, i + m = B.length ∧ Fr 56 [(4, Ty.ex (.pointer (some ⟨g4, 0, none⟩))), (6, Ty.ex (.pointer (some ⟨g6, 0, none⟩))), (36, Ty.ex s2), (37, Ty.ex (.int .i64 (B.length : Int))), (38, Ty.ex (.int .i64 (i : Int)))] a wr ∧ Below w2.heap.size w2 wr ∧ Blk wr g6 40 #[.int .u64 (sa : Int), .slice (some ⟨g, off, none⟩) A.length cap] ∧ SegL wr 69 65 g off A.length cap (flatC (mixM A B i))) B.length ?_ ?_
  · exact ⟨0, by omega, hF.keep [4, 6, 36, 37, 38], hB, hb6, by rw [mixM_zero]; exact hsl⟩
  clear hF hB hsl hb6
  rintro m a wr ⟨i, hi, hF, hB, hb6, hsl⟩
  repeat with_reducible refine wp_seq ?_
  refine' reg_all hF ?_ mixed (by kernel_rfl) ?_
  rotate_left
  · repeat (first | exact Line.nil | ((refine' Line.cons rfl (.run rfl rfl ?_) ?_); (any_goals exact cLss rfl rfl rfl); rotate_left))
  intro a w6 hF hb hN
  have hBs := hB.size
  replace hB := hB.trans (hb.mono hB.size)
  dsimp only [ext, Option.getD] at hF
  repeat with_reducible first | refine wp_seq ?_ | refine nThen ?_
  replace hsl := hsl.below hb
  replace hb6 := hb6.below hb
  refine cond_ty hF rfl (fun hlt => ?_) (fun hge => ?_)
  · have hlt : i < B.length := by have := of_decide_eq_true hlt; omega
    have hsb6 := TB.below hsb hB
    have hw6 := hB.size
    have hsl0 := hsl
    repeat with_reducible first | refine wp_seq ?_ | refine nThen ?_ | refine wp_skip ?_ | refine wp_block ?_
    refine' region_ty 5 mixed (by kernel_rfl) hF ?_ ?_
    rotate_left
    · simp only [List.take_succ_cons, List.take_zero]
      repeat (first
          | exact Line.nil
          | (refine' Line.cons rfl (.new rfl rfl (run_alloc_i infoC34) rfl) ?_; rotate_left)
          | ((refine' Line.cons rfl (.run rfl rfl ?_) ?_)
             any_goals (first | exact cMove rfl rfl | exact cAssign rfl rfl | exact cIndexCl (k := i) rfl (.l rfl hsb6) rfl Tryz.underlying38 info34 hlt | exact cLoadCl34 rfl (.t rfl))
             rotate_left))
    intro a w7 hF hb hN
    have hBs := hB.size
    replace hB := hB.trans (hb.mono hB.size)
    simp only [List.take_succ_cons, List.take_zero, List.drop_succ_cons, List.drop_zero] at hF hN ⊢
    dsimp only [ext, Option.getD] at hF
    replace hsl := hsl.below hb
    replace hb6 := hb6.below hb
    have hlg := hsl.lt
    obtain ⟨z, ⟨g8, rfl, hg8, hb8⟩, hF⟩ := hF.open (s := 8) rfl
    have hg8 : w6.heap.size ≤ g8 := hg8
    have hlt6 := hb6.lt
    have hg86 : g8 ≠ g6 := fun h => by subst h; exact absurd (hb8.ne hb6 (by decide)) (by simp)
    have hg8g : g ≠ g8 := by have := hsl0.lt; omega
    refine tlStoreV (Δ := [(4, Ty.ex (.pointer (some ⟨g4, 0, none⟩))), (6, Ty.ex (.pointer (some ⟨g6, 0, none⟩))), (7, Ty.ex (.int .i64 (i : Int))), (8, Ty.ex (.pointer (some ⟨g8, 0, none⟩))), (36, Ty.ex s2), (37, Ty.ex (.int .i64 (B.length : Int))), (38, Ty.ex (.int .i64 (i : Int)))]) hF rfl rfl rfl rfl (hF.getEx (s := 42) rfl) hb8 (clSz _ _) (by show _ = some (Cl.a _).size; rw [Cl.size]; exact info34) (Cl.one _) (hF.keep [4, 6, 7, 8, 36, 37, 38]) rfl ?_
    intro w8 hF hb8 hkx
    refine wpList_nil ?_
    replace hB := below_own hB hkx (by intro y hy; simp only [List.mem_singleton] at hy; omega)
    replace hsl := hsl.keeps hkx (by simpa using hg8g)
    replace hb6 := hb6.keeps hkx (by simpa using Ne.symm hg86)
    have h8 : (Ty.at_ 69 (B.getD i default).enc).p w8 (.pointer (some ⟨g8, 0, none⟩)) := blk_at hb8
    have h6 : (Ty.at_ 40 [.int .u64 (sa : Int), .slice (some ⟨g, off, none⟩) A.length cap]).p w8 (.pointer (some ⟨g6, 0, none⟩)) := blk_at hb6
    have hcell : (Ty.at_ 69 (A.getD i default).enc).p w8 (.pointer (some ⟨g, off + i * 65, none⟩)) := by
      obtain ⟨g', off', he, h⟩ := SlP.elem (k := i * 65) hsl.sl (by rw [flatC_len, mixM_len hlen]; omega)
      simp only [Option.some.injEq, Addr.mk.injEq] at he
      obtain ⟨rfl, rfl, _⟩ := he
      have h := h (i * 65)
      rw [flatC_at _ (by rw [mixM_len hlen]; omega), mixM_get hlen (by omega)] at h
      exact at_pre _ _ h
    clear hb8 hkx
    repeat with_reducible refine nThen ?_
    refine' region_ty 11 mixed (by kernel_rfl) hF ?_ ?_
    rotate_left
    · simp only [List.take_succ_cons, List.take_zero]
      repeat (first | exact Line.nil | ((refine' Line.cons rfl (.run rfl rfl ?_) ?_); (any_goals (first | exact cMove rfl rfl | exact cFldL46 rfl (.l rfl h6) | exact cRowOf46 rfl (.t rfl) | exact cIndexEx (k := i) (sz := 65) rfl rfl rfl Tryz.underlying38 info34 (by omega) | exact cLoadCl34 rfl (.l rfl hcell) | exact cLoadCl34 rfl (.l rfl h8) | exact cCall2 rfl rfl rfl (cminus_ty _ _))); rotate_left))
    intro a w9 hF hb hN
    have hBs := hB.size
    replace hB := hB.trans (hb.mono hB.size)
    simp only [List.take_succ_cons, List.take_zero, List.drop_succ_cons, List.drop_zero] at hF hN ⊢
    dsimp only [ext, Option.getD] at hF
    replace hsl := hsl.below hb
    replace hb6 := hb6.below hb
    refine tlStoreAt (Δ := [(4, Ty.ex (.pointer (some ⟨g4, 0, none⟩))), (6, Ty.ex (.pointer (some ⟨g6, 0, none⟩))), (36, Ty.ex s2), (37, Ty.ex (.int .i64 (B.length : Int))), (38, Ty.ex (.int .i64 (i : Int)))]) (k := i * 65) hF rfl rfl rfl rfl rfl hsl (by rw [Cl.size]; omega) (by rw [Cl.size]; exact info34) (Cl.one _) (hF.keep [4, 6, 36, 37, 38]) rfl ?_
    intro w10 hF hsl hk10
    refine wpList_nil ?_
    replace hB := below_own hB hk10 (by intro y hy; simp only [List.mem_singleton] at hy; omega)
    replace hb6 := hb6.keeps hk10 (by simpa using Ne.symm hne)
    rw [show (((A.getD i default).minus (B.getD i default)).a).toList = ((A.getD i default).minus (B.getD i default)).enc from rfl, over_flatC _ _ (by rw [mixM_len hlen]; omega), mixM_set hlen (by omega)] at hsl
    repeat with_reducible first | refine nThen ?_ | refine nBlk ?_
    refine' reg_all hF ?_ mixed (by kernel_rfl) ?_
    rotate_left
    · repeat (first | exact Line.nil | ((refine' Line.cons rfl (.run rfl rfl ?_) ?_); (any_goals (first | exact cMove rfl rfl | exact cAdd (r := ((i + 1 : Nat) : Int)) rfl rfl rfl (by omega))); rotate_left))
    intro a w11 hF hb hN
    have hBs := hB.size
    replace hB := hB.trans (hb.mono hB.size)
    dsimp only [ext, Option.getD] at hF
    repeat with_reducible refine nThen ?_
    exact ⟨m - 1, by omega, i + 1, by omega, hF.keep [4, 6, 36, 37, 38], hB, hb6.below hb, hsl.below hb⟩
  have hge : ¬ i < B.length := by have := of_decide_eq_false hge; omega
  obtain rfl : i = A.length := by omega
  rw [mixM_all hlen] at hsl
  have h6 : (Ty.at_ 40 [.int .u64 (sa : Int), .slice (some ⟨g, off, none⟩) A.length cap]).p w6 (.pointer (some ⟨g6, 0, none⟩)) := blk_at hb6
  replace hb4 : Blk w6 g4 40 zeroT := hb4.below hB
  replace hB := hB0.trans (hB.mono hw2)
  have hg4 : w.heap.size ≤ g4 := hg4
  have hg46 : g4 ≠ g := by omega
  clear hb6
  repeat with_reducible first | refine wp_seq ?_ | refine nThen ?_ | refine wp_exit ?_ | refine xThen ?_ | refine xHere ?_
  refine wp_region_lit ?_
  refine' tlOp hF rfl rfl rfl ?_ ?_
  rotate_left
  · exact cLoadT46 rfl (.l rfl h6)
  intro a w7 hF hb
  have hBs := hB.size
  replace hB := hB.trans (hb.mono hB.size)
  try (refine wpList_nil ?_)
  replace hb4 := hb4.below hb
  replace hsl := hsl.below hb
  refine tlStoreV (Δ := [(4, Ty.ex (.pointer (some ⟨g4, 0, none⟩)))]) hF rfl rfl rfl rfl (hF.getEx (s := 55) rfl) hb4 rfl sizeT46 (tabCells sa _ _ _) (hF.keep [4]) rfl ?_
  intro w8 hF hb4 hkx
  replace hB := below_own hB hkx (by intro y hy; simp only [List.mem_singleton] at hy; omega)
  replace hsl := hsl.keeps hkx (by simpa using Ne.symm hg46)
  refine' tlOp hF rfl rfl rfl ?_ ?_
  rotate_left
  · exact cAssign rfl rfl
  intro a w9 hF hb
  have hBs := hB.size
  replace hB := hB.trans (hb.mono hB.size)
  try (refine wpList_nil ?_)
  repeat with_reducible first | refine nThen ?_ | refine wp_ret ?_
  refine retCell2 hF rfl rfl rfl (hb4.below hb) Tryz.underlying40 rfl sizeT46 ?_
  refine ⟨_, rfl, ⟨_, rfl, _, rfl, [g], ?_, fun y hy => ?_⟩, hB⟩
  · rw [tminus_len hlen]
    exact (hsl.below hb).seg
  · simp only [List.mem_singleton] at hy
    omega
end Go.Proofs.YtmefpnklgfhggaaGreatDoor

/- Layer 15 by types: Zero, the program's and the document's. -/
namespace Go.Proofs.YtmefpnklgfhggaaGreatDoor
open Go.RowKit

/-- All cells are nought. -/
def allZ (L : List Cl) : Bool := L.all fun c => decide (c = Cl.zero)
theorem allZ_bad {L : List Cl} {k : Nat} (hk : k < L.length) (h : ¬ L.getD k default = Cl.zero) : allZ L = false := by
  unfold allZ
  rw [List.all_eq_false]
  exact ⟨L[k], List.getElem_mem hk, by simpa [List.getD, List.getElem?_eq_getElem hk] using h⟩
theorem allZ_all {L : List Cl} (h : ∀ k, k < L.length → L.getD k default = Cl.zero) : allZ L = true := by
  unfold allZ
  rw [List.all_eq_true]
  intro c hc
  obtain ⟨k, hk, rfl⟩ := List.getElem_of_mem hc
  simpa [List.getD, List.getElem?_eq_getElem hk] using h k hk
theorem allZ_iff {L : List Cl} : allZ L = true ↔ ∀ k, k < L.length → L.getD k default = Cl.zero := by
  refine ⟨fun h k hk => ?_, allZ_all⟩
  exact Classical.byContradiction fun hb => by rw [allZ_bad hk hb] at h; cases h
set_option maxRecDepth 100000 in
theorem zero1_ty (c : Cl) : Fn1 Tryz.prog 136 (Ty.ex (.agg c.a)) (Ty.ex (.bool (!decide (c = Cl.zero)))) := by
  refine ⟨fun args w => by kernel_rfl, fun w v hv => ?_⟩
  have hC := czero_ty c
  refine enter_ty 6 [Ty.ex (.agg c.a)] Tryz.func136 rfl (by kernel_rfl) ⟨hv, trivial⟩ fun a hF => ?_
  have hB := Below.refl w.heap.size w
  repeat with_reducible refine wp_seq ?_
  refine' reg_all hF ?_ mixed (by kernel_rfl) ?_
  rotate_left
  · repeat (first | exact Line.nil | ((refine' Line.cons rfl (.run rfl rfl ?_) ?_); (any_goals (first | exact cAssign rfl rfl | exact cBoxCl rfl rfl)); rotate_left))
  intro a w1 hF hb hN
  have hBs := hB.size
  replace hB := hB.trans (hb.mono hB.size)
  dsimp only [ext, Option.getD] at hF
  repeat with_reducible first | refine wp_seq ?_ | refine nThen ?_
  refine' reg_all hF ?_ mixed (by kernel_rfl) ?_
  rotate_left
  · repeat (first | exact Line.nil | ((refine' Line.cons rfl (.run rfl rfl ?_) ?_); (any_goals (first | exact cAssign rfl rfl | exact cNot rfl rfl | exact cLoadCl34 rfl (.t rfl) | exact cCall1 rfl rfl hC)); rotate_left))
  intro a w2 hF hb hN
  have hBs := hB.size
  replace hB := hB.trans (hb.mono hB.size)
  dsimp only [ext, Option.getD] at hF
  repeat with_reducible first | refine nThen ?_ | refine wp_ret ?_
  refine ret1 hF rfl rfl fun z hz => ?_
  exact ⟨z, rfl, hz, hB⟩
abbrev zeroFn : Value := .func (.func 136) #[] #[]
set_option maxRecDepth 100000 in
/-- The first that is not nought; -1. -/
theorem idxCl_ty (L : List Cl) (hL : L.length ≤ 1000000) : ∃ r : Int, (decide (0 ≤ r) = !allZ L) ∧ Fn2 Tryz.prog 150 (Ty.cls 69 L) (Ty.ex zeroFn) (Ty.ex (.int .i64 r)) := by
  by_cases hz : allZ L = true
  · refine ⟨-1, by rw [hz]; rfl, fun args w => by kernel_rfl, fun w v u hv hu => ?_⟩
    have hall := allZ_iff.1 hz
    let TL := Ty.cls 69 L
    refine enter_ty 19 [Ty.ex v, Ty.ex zeroFn] Tryz.func150 rfl (by kernel_rfl) ⟨rfl, hu, trivial⟩ fun a hF => ?_
    have hB := Below.refl w.heap.size w
    repeat with_reducible refine wp_seq ?_
    refine' reg_all hF ?_ mixed (by kernel_rfl) ?_
    rotate_left
    · repeat (first | exact Line.nil | ((refine' Line.cons rfl (.run rfl rfl ?_) ?_); (any_goals exact cAssign rfl rfl); rotate_left))
    intro a w1 hF hb hN
    have hBs := hB.size
    replace hB := hB.trans (hb.mono hB.size)
    dsimp only [ext, Option.getD] at hF
    repeat with_reducible first | refine wp_seq ?_ | refine nThen ?_
    have hv1 := TL.below hv hB
    refine' reg_all hF ?_ mixed (by kernel_rfl) ?_
    rotate_left
    · repeat (first | exact Line.nil | ((refine' Line.cons rfl (.run rfl rfl ?_) ?_); (any_goals (first | exact cMove rfl rfl | exact cLenH rfl (.l rfl hv1) (Ty.sl_isSl _ _ _) Tryz.underlying38)); rotate_left))
    intro a w2 hF hb hN
    have hBs := hB.size
    replace hB := hB.trans (hb.mono hB.size)
    dsimp only [ext, Option.getD] at hF
    repeat with_reducible first | refine nThen ?_ | refine wp_block ?_
    refine loop_ty (fun m a wr => ∃ k : Nat, k + m = L.length ∧ Fr 19 [(0, Ty.ex v), (1, Ty.ex zeroFn), (7, Ty.ex (.int .i64 (L.length : Int))), (8, Ty.ex (.int .i64 (k : Int)))] a wr ∧ Below w.heap.size w wr) L.length ?_ ?_
    · exact ⟨0, by omega, hF.keep [0, 1, 7, 8], hB⟩
    clear hF hB hv1
    rintro m a wr ⟨k, hk, hF, hB⟩
    repeat with_reducible refine wp_seq ?_
    refine' reg_all hF ?_ mixed (by kernel_rfl) ?_
    rotate_left
    · repeat (first | exact Line.nil | ((refine' Line.cons rfl (.run rfl rfl ?_) ?_); (any_goals exact cLss rfl rfl rfl); rotate_left))
    intro a w3 hF hb hN
    have hBs := hB.size
    replace hB := hB.trans (hb.mono hB.size)
    dsimp only [ext, Option.getD] at hF
    repeat with_reducible first | refine wp_seq ?_ | refine nThen ?_
    refine cond_ty hF rfl (fun hlt => ?_) (fun hge => ?_)
    · have hlt : k < L.length := by have := of_decide_eq_true hlt; omega
      have hC := zero1_ty (L.getD k default)
      rw [hall k hlt] at hC
      repeat with_reducible first | refine wp_seq ?_ | refine nThen ?_ | refine wp_skip ?_ | refine wp_block ?_
      refine' reg_all hF ?_ mixed (by kernel_rfl) ?_
      rotate_left
      · repeat (first | exact Line.nil | ((refine' Line.cons rfl (.run rfl rfl ?_) ?_); (any_goals (first | exact cMove rfl rfl | exact cAssign rfl rfl)); rotate_left))
      intro a w4 hF hb hN
      have hBs := hB.size
      replace hB := hB.trans (hb.mono hB.size)
      dsimp only [ext, Option.getD] at hF
      repeat with_reducible first | refine wp_seq ?_ | refine nThen ?_
      have hv4 := TL.below hv hB
      have hix : ∀ {Γ : Ctx} {o : Oper} {x ix : Operand} {kd : IntKind} (ho : o.op = .indexAddr 38 x ix) (hx : Has w4 Γ x (Ty.cls 69 L)) (hi : OpT Γ ix (Ty.ex (.int kd (k : Int)))), OpOk Tryz.prog w4 Γ o (Ty.at_ 69 Cl.zero.enc) := fun ho hx hi => by
        have h := cIndexCl (P := Tryz.prog) (k := k) ho hx hi Tryz.underlying38 info34 hlt
        rwa [hall k hlt] at h
      refine' reg_all hF ?_ mixed (by kernel_rfl) ?_
      rotate_left
      · repeat (first | exact Line.nil | ((refine' Line.cons rfl (.run rfl rfl ?_) ?_); (any_goals (first | exact cMove rfl rfl | exact hix rfl (.l rfl hv4) rfl | exact cLoadCl34 rfl (.t rfl) | exact OpOk.b (c := false) (cCallV1 rfl rfl (.t rfl) hC) (by decide))); rotate_left))
      intro a w5 hF hb hN
      have hBs := hB.size
      replace hB := hB.trans (hb.mono hB.size)
      dsimp only [ext, Option.getD] at hF
      repeat with_reducible refine nThen ?_
      refine cond_f hF rfl ?_
      repeat with_reducible first | refine nThen ?_ | refine nBlk ?_ | refine wp_skip ?_
      refine' reg_all hF ?_ mixed (by kernel_rfl) ?_
      rotate_left
      · repeat (first | exact Line.nil | ((refine' Line.cons rfl (.run rfl rfl ?_) ?_); (any_goals (first | exact cMove rfl rfl | exact cAdd (r := ((k + 1 : Nat) : Int)) rfl rfl rfl (by omega))); rotate_left))
      intro a w6 hF hb hN
      have hBs := hB.size
      replace hB := hB.trans (hb.mono hB.size)
      dsimp only [ext, Option.getD] at hF
      repeat with_reducible refine nThen ?_
      exact ⟨m - 1, by omega, k + 1, by omega, hF.keep [0, 1, 7, 8], hB⟩
    · have hge : ¬ k < L.length := by have := of_decide_eq_false hge; omega
      repeat with_reducible first | refine wp_seq ?_ | refine nThen ?_ | refine wp_exit ?_ | refine xThen ?_ | refine xHere ?_
      refine' reg_all hF ?_ mixed (by kernel_rfl) ?_
      rotate_left
      · repeat (first | exact Line.nil | ((refine' Line.cons rfl (.run rfl rfl ?_) ?_); (any_goals exact cAssign rfl rfl); rotate_left))
      intro a w4 hF hb hN
      have hBs := hB.size
      replace hB := hB.trans (hb.mono hB.size)
      dsimp only [ext, Option.getD] at hF
      repeat with_reducible first | refine nThen ?_ | refine wp_ret ?_
      refine ret1 hF rfl rfl fun z hz => ?_
      exact ⟨z, rfl, hz, hB⟩
  · have hz : allZ L = false := by simpa using hz
    obtain ⟨k0, hk0, hne0, hlo⟩ : ∃ k, k < L.length ∧ ¬ L.getD k default = Cl.zero ∧ ∀ j, j < k → L.getD j default = Cl.zero := by
      have hex : ∃ k, k < L.length ∧ ¬ L.getD k default = Cl.zero := Classical.byContradiction fun h => by
        have : allZ L = true := allZ_all fun k hk => Classical.byContradiction fun hb => h ⟨k, hk, hb⟩
        rw [this] at hz; cases hz
      have key : ∀ n, (∃ k, k < n ∧ k < L.length ∧ ¬ L.getD k default = Cl.zero) → ∃ k, k < L.length ∧ ¬ L.getD k default = Cl.zero ∧ ∀ j, j < k → L.getD j default = Cl.zero := by
        intro n
        induction n with
        | zero => rintro ⟨k, h, _⟩; omega
        | succ n ih =>
          rintro ⟨k, h1, h2, h3⟩
          by_cases hn : ∃ k, k < n ∧ k < L.length ∧ ¬ L.getD k default = Cl.zero
          · exact ih hn
          · refine ⟨k, h2, h3, fun j hj => Classical.byContradiction fun hb => hn ⟨j, by omega, by omega, hb⟩⟩
      obtain ⟨k, h1, h2⟩ := hex
      exact key (k + 1) ⟨k, by omega, h1, h2⟩
    refine ⟨(k0 : Int), by rw [hz]; exact decide_eq_true (by omega), fun args w => by kernel_rfl, fun w v u hv hu => ?_⟩
    let TL := Ty.cls 69 L
    refine enter_ty 19 [Ty.ex v, Ty.ex zeroFn] Tryz.func150 rfl (by kernel_rfl) ⟨rfl, hu, trivial⟩ fun a hF => ?_
    have hB := Below.refl w.heap.size w
    repeat with_reducible refine wp_seq ?_
    refine' reg_all hF ?_ mixed (by kernel_rfl) ?_
    rotate_left
    · repeat (first | exact Line.nil | ((refine' Line.cons rfl (.run rfl rfl ?_) ?_); (any_goals exact cAssign rfl rfl); rotate_left))
    intro a w1 hF hb hN
    have hBs := hB.size
    replace hB := hB.trans (hb.mono hB.size)
    dsimp only [ext, Option.getD] at hF
    repeat with_reducible first | refine wp_seq ?_ | refine nThen ?_
    have hv1 := TL.below hv hB
    refine' reg_all hF ?_ mixed (by kernel_rfl) ?_
    rotate_left
    · repeat (first | exact Line.nil | ((refine' Line.cons rfl (.run rfl rfl ?_) ?_); (any_goals (first | exact cMove rfl rfl | exact cLenH rfl (.l rfl hv1) (Ty.sl_isSl _ _ _) Tryz.underlying38)); rotate_left))
    intro a w2 hF hb hN
    have hBs := hB.size
    replace hB := hB.trans (hb.mono hB.size)
    dsimp only [ext, Option.getD] at hF
    repeat with_reducible first | refine nThen ?_ | refine wp_block ?_
    refine loop_ty (fun m a wr => ∃ k : Nat, k + m = L.length ∧ k ≤ k0 ∧ Fr 19 [(0, Ty.ex v), (1, Ty.ex zeroFn), (7, Ty.ex (.int .i64 (L.length : Int))), (8, Ty.ex (.int .i64 (k : Int)))] a wr ∧ Below w.heap.size w wr) L.length ?_ ?_
    · exact ⟨0, by omega, by omega, hF.keep [0, 1, 7, 8], hB⟩
    clear hF hB hv1
    rintro m a wr ⟨k, hk, hk2, hF, hB⟩
    repeat with_reducible refine wp_seq ?_
    refine' reg_all hF ?_ mixed (by kernel_rfl) ?_
    rotate_left
    · repeat (first | exact Line.nil | ((refine' Line.cons rfl (.run rfl rfl ?_) ?_); (any_goals exact OpOk.b (c := true) (cLss rfl rfl rfl) (decide_eq_true (by omega))); rotate_left))
    intro a w3 hF hb hN
    have hBs := hB.size
    replace hB := hB.trans (hb.mono hB.size)
    dsimp only [ext, Option.getD] at hF
    repeat with_reducible first | refine wp_seq ?_ | refine nThen ?_
    refine cond_t hF rfl ?_
    have hC := zero1_ty (L.getD k default)
    repeat with_reducible first | refine wp_seq ?_ | refine nThen ?_ | refine wp_skip ?_ | refine wp_block ?_
    refine' reg_all hF ?_ mixed (by kernel_rfl) ?_
    rotate_left
    · repeat (first | exact Line.nil | ((refine' Line.cons rfl (.run rfl rfl ?_) ?_); (any_goals (first | exact cMove rfl rfl | exact cAssign rfl rfl)); rotate_left))
    intro a w4 hF hb hN
    have hBs := hB.size
    replace hB := hB.trans (hb.mono hB.size)
    dsimp only [ext, Option.getD] at hF
    repeat with_reducible first | refine wp_seq ?_ | refine nThen ?_
    have hv4 := TL.below hv hB
    refine' reg_all hF ?_ mixed (by kernel_rfl) ?_
    rotate_left
    · repeat (first | exact Line.nil | ((refine' Line.cons rfl (.run rfl rfl ?_) ?_); (any_goals (first | exact cMove rfl rfl | exact cIndexCl (k := k) rfl (.l rfl hv4) rfl Tryz.underlying38 info34 (by omega) | exact cLoadCl34 rfl (.t rfl) | exact cCallV1 rfl rfl (.t rfl) hC)); rotate_left))
    intro a w5 hF hb hN
    have hBs := hB.size
    replace hB := hB.trans (hb.mono hB.size)
    dsimp only [ext, Option.getD] at hF
    repeat with_reducible refine nThen ?_
    refine cond_ty hF rfl (fun hin => ?_) (fun hout => ?_)
    · have hkk : k = k0 := Classical.byContradiction fun h => by
        rw [hlo k (by omega)] at hin
        simp at hin
      subst hkk
      repeat with_reducible refine wp_seq ?_
      refine' reg_all hF ?_ mixed (by kernel_rfl) ?_
      rotate_left
      · repeat (first | exact Line.nil | ((refine' Line.cons rfl (.run rfl rfl ?_) ?_); (any_goals (first | exact cMove rfl rfl | exact cAssign rfl rfl)); rotate_left))
      intro a w6 hF hb hN
      have hBs := hB.size
      replace hB := hB.trans (hb.mono hB.size)
      dsimp only [ext, Option.getD] at hF
      repeat with_reducible first | refine nThen ?_ | refine wp_ret ?_ | refine rThen ?_ | refine rBlk ?_
      refine ret1 hF rfl rfl fun z hz => ?_
      exact ⟨z, rfl, hz, hB⟩
    · have hkk : k < k0 := Classical.byContradiction fun h => by
        obtain rfl : k = k0 := by omega
        simp at hout
        exact hne0 (by simpa [List.getD] using hout)
      repeat with_reducible first | refine nThen ?_ | refine nBlk ?_ | refine wp_skip ?_
      refine' reg_all hF ?_ mixed (by kernel_rfl) ?_
      rotate_left
      · repeat (first | exact Line.nil | ((refine' Line.cons rfl (.run rfl rfl ?_) ?_); (any_goals (first | exact cMove rfl rfl | exact cAdd (r := ((k + 1 : Nat) : Int)) rfl rfl rfl (by omega))); rotate_left))
      intro a w6 hF hb hN
      have hBs := hB.size
      replace hB := hB.trans (hb.mono hB.size)
      dsimp only [ext, Option.getD] at hF
      repeat with_reducible refine nThen ?_
      exact ⟨m - 1, by omega, k + 1, by omega, by omega, hF.keep [0, 1, 7, 8], hB⟩
set_option maxRecDepth 100000 in
theorem contCl_ty (L : List Cl) (hL : L.length ≤ 1000000) : Fn2 Tryz.prog 135 (Ty.cls 69 L) (Ty.ex zeroFn) (Ty.ex (.bool (!allZ L))) := by
  obtain ⟨r, hr, hI⟩ := idxCl_ty L hL
  refine ⟨fun args w => by kernel_rfl, fun w v u hv hu => ?_⟩
  refine enter_ty 9 [Ty.ex v, Ty.ex zeroFn] Tryz.func135 rfl (by kernel_rfl) ⟨rfl, hu, trivial⟩ fun a hF => ?_
  have hB := Below.refl w.heap.size w
  repeat with_reducible refine wp_seq ?_
  refine' reg_all hF ?_ mixed (by kernel_rfl) ?_
  rotate_left
  · repeat (first | exact Line.nil | ((refine' Line.cons rfl (.run rfl rfl ?_) ?_); (any_goals exact cAssign rfl rfl); rotate_left))
  intro a w1 hF hb hN
  have hBs := hB.size
  replace hB := hB.trans (hb.mono hB.size)
  dsimp only [ext, Option.getD] at hF
  repeat with_reducible first | refine wp_seq ?_ | refine nThen ?_
  have hv1 := (Ty.cls 69 L).below hv hB
  refine' reg_all hF ?_ mixed (by kernel_rfl) ?_
  rotate_left
  · repeat (first | exact Line.nil | ((refine' Line.cons rfl (.run rfl rfl ?_) ?_); (any_goals (first | exact cMove rfl rfl | exact cAssign rfl rfl | exact cCallH2 rfl (.l rfl hv1) (.t rfl) hI | exact OpOk.b (cGeq rfl rfl rfl) hr)); rotate_left))
  intro a w2 hF hb hN
  have hBs := hB.size
  replace hB := hB.trans (hb.mono hB.size)
  dsimp only [ext, Option.getD] at hF
  repeat with_reducible first | refine nThen ?_ | refine wp_ret ?_
  refine ret1 hF rfl rfl fun z hz => ?_
  exact ⟨z, rfl, hz, hB⟩
set_option maxRecDepth 100000 in
theorem tzero_ty (seed : Nat) (L : List Cl) : Fn1 Tryz.prog 107 (Ty.tab 69 seed L) (Ty.ex (.bool (goodN (L.length : Int) && allZ L))) := by
  refine ⟨fun args w => by kernel_rfl, fun w v ⟨s, hv, hs⟩ => ?_⟩
  subst hv
  have hG := tgood_ty seed L
  by_cases hg : goodN (L.length : Int) = true
  · obtain ⟨N, hN, _, hN2⟩ := goodN_rng hg
    have hC := contCl_ty L (by omega)
    rw [hg] at hG ⊢
    refine enter_ty 11 [Ty.ex (.agg #[.int .u64 (seed : Int), s])] Tryz.func107 rfl (by kernel_rfl) ⟨rfl, trivial⟩ fun a hF => ?_
    have hB := Below.refl w.heap.size w
    repeat with_reducible refine wp_seq ?_
    refine' reg_all hF ?_ mixed (by kernel_rfl) ?_
    rotate_left
    · repeat (first | exact Line.nil | ((refine' Line.cons rfl (.run rfl rfl ?_) ?_); (any_goals (first | exact cAssign rfl rfl | exact cBoxTab rfl rfl)); rotate_left))
    intro a w1 hF hb hN
    have hBs := hB.size
    replace hB := hB.trans (hb.mono hB.size)
    dsimp only [ext, Option.getD] at hF
    repeat with_reducible first | refine wp_seq ?_ | refine nThen ?_
    have hs1 := (Ty.cls 69 L).below hs hB
    have ht1 : (Ty.tab 69 seed L).p w1 (.agg #[.int .u64 (seed : Int), s]) := ⟨s, rfl, hs1⟩
    refine' reg_all hF ?_ mixed (by kernel_rfl) ?_
    rotate_left
    · repeat (first | exact Line.nil | ((first | refine' Line.cons rfl (.run rfl rfl ?_) ?_ | refine' Line.cons rfl (.yes rfl rfl rfl rfl ?_) ?_); (any_goals (first | exact cMove rfl rfl | exact cAssign rfl rfl | exact cNot rfl rfl | exact cLoadT46 rfl (.t rfl) | exact cCallH1 rfl (.l rfl ht1) hG | exact cFldL46 rfl (.t rfl) | exact cRowOf46 rfl (.t rfl) | exact cCallH2 rfl (.l rfl hs1) (.t rfl) hC | exact cPickT rfl rfl rfl)); rotate_left))
    intro a w2 hF hb hN
    have hBs := hB.size
    replace hB := hB.trans (hb.mono hB.size)
    dsimp only [ext, Option.getD] at hF
    repeat with_reducible first | refine nThen ?_ | refine wp_ret ?_
    refine ret1 hF rfl rfl fun z hz => ?_
    refine ⟨z, rfl, ?_, hB⟩
    rw [Bool.true_and, show allZ L = !!allZ L by simp]
    exact hz
  · have hg : goodN (L.length : Int) = false := by simpa using hg
    rw [hg] at hG ⊢
    refine enter_ty 11 [Ty.ex (.agg #[.int .u64 (seed : Int), s])] Tryz.func107 rfl (by kernel_rfl) ⟨rfl, trivial⟩ fun a hF => ?_
    have hB := Below.refl w.heap.size w
    repeat with_reducible refine wp_seq ?_
    refine' reg_all hF ?_ mixed (by kernel_rfl) ?_
    rotate_left
    · repeat (first | exact Line.nil | ((refine' Line.cons rfl (.run rfl rfl ?_) ?_); (any_goals (first | exact cAssign rfl rfl | exact cBoxTab rfl rfl)); rotate_left))
    intro a w1 hF hb hN
    have hBs := hB.size
    replace hB := hB.trans (hb.mono hB.size)
    dsimp only [ext, Option.getD] at hF
    repeat with_reducible first | refine wp_seq ?_ | refine nThen ?_
    have hs1 := (Ty.cls 69 L).below hs hB
    have ht1 : (Ty.tab 69 seed L).p w1 (.agg #[.int .u64 (seed : Int), s]) := ⟨s, rfl, hs1⟩
    refine' reg_all hF ?_ mixed (by kernel_rfl) ?_
    rotate_left
    · repeat (first | exact Line.nil | (refine' Line.cons rfl (.no rfl rfl rfl rfl rfl rfl) ?_; rotate_left) | ((refine' Line.cons rfl (.run rfl rfl ?_) ?_); (any_goals (first | exact cMove rfl rfl | exact cAssign rfl rfl | exact cLoadT46 rfl (.t rfl) | exact cCallH1 rfl (.l rfl ht1) hG | exact cPickF rfl rfl rfl)); rotate_left))
    intro a w2 hF hb hN
    have hBs := hB.size
    replace hB := hB.trans (hb.mono hB.size)
    dsimp only [ext, Option.getD] at hF
    repeat with_reducible first | refine nThen ?_ | refine wp_ret ?_
    refine ret1 hF rfl rfl fun z hz => ?_
    exact ⟨z, rfl, hz, hB⟩
end Go.Proofs.YtmefpnklgfhggaaGreatDoor

/- The library's contracts, laid at this translation. -/
namespace Go.Proofs.YtmefpnklgfhggaaGreatDoor
open Go.RowKit Go.Shelf

def laysSortS_ren : Go.Shelf.Ren := ⟨fun | 6 => 68 | 15 => 101 | 14 => 100 | 28 => 130 | 29 => 131 | 20 => 122 | 21 => 123 | 22 => 124 | 23 => 125 | 24 => 126 | 25 => 127 | 26 => 128 | 27 => 129 | 46 => 144 | 47 => 145 | 48 => 146 | 49 => 147 | 50 => 148 | 57 => 151 | n => n, fun | 22 => 29 | 24 => 28 | 25 => 132 | 3 => 3 | 39 => 94 | 0 => 0 | 53 => 125 | 55 => 31 | 4 => 4 | 46 => 195 | 45 => 194 | 50 => 161 | 5 => 5 | 9 => 9 | 66 => 211 | 70 => 215 | 76 => 219 | 77 => 220 | n => n, fun | n => n⟩
theorem laysSortS : Go.Proofs.SlLaysF0.n6 Tryz.prog laysSortS_ren := {
  mixed := by kernel_rfl
  f6 := ⟨Tryz.f68.name, by decide, Tryz.func68.trans (congrArg some (by kernel_rfl))⟩
  f14 := ⟨Tryz.f100.name, by decide, Tryz.func100.trans (congrArg some (by kernel_rfl))⟩
  f15 := Tryz.func101.trans (congrArg some (by kernel_rfl))
  f20 := ⟨Tryz.f122.name, by decide, Tryz.func122.trans (congrArg some (by kernel_rfl))⟩
  f21 := ⟨Tryz.f123.name, by decide, Tryz.func123.trans (congrArg some (by kernel_rfl))⟩
  f22 := ⟨Tryz.f124.name, by decide, Tryz.func124.trans (congrArg some (by kernel_rfl))⟩
  f23 := ⟨Tryz.f125.name, by decide, Tryz.func125.trans (congrArg some (by kernel_rfl))⟩
  f24 := ⟨Tryz.f126.name, by decide, Tryz.func126.trans (congrArg some (by kernel_rfl))⟩
  f25 := ⟨Tryz.f127.name, by decide, Tryz.func127.trans (congrArg some (by kernel_rfl))⟩
  f26 := ⟨Tryz.f128.name, by decide, Tryz.func128.trans (congrArg some (by kernel_rfl))⟩
  f27 := ⟨Tryz.f129.name, by decide, Tryz.func129.trans (congrArg some (by kernel_rfl))⟩
  f28 := Tryz.func130.trans (congrArg some (by kernel_rfl))
  f29 := Tryz.func131.trans (congrArg some (by kernel_rfl))
  f46 := ⟨Tryz.f144.name, by decide, Tryz.func144.trans (congrArg some (by kernel_rfl))⟩
  f47 := Tryz.func145.trans (congrArg some (by kernel_rfl))
  f48 := Tryz.func146.trans (congrArg some (by kernel_rfl))
  f49 := ⟨Tryz.f147.name, by decide, Tryz.func147.trans (congrArg some (by kernel_rfl))⟩
  f50 := ⟨Tryz.f148.name, by decide, Tryz.func148.trans (congrArg some (by kernel_rfl))⟩
  f57 := ⟨Tryz.f151.name, by decide, Tryz.func151.trans (congrArg some (by kernel_rfl))⟩
  t0 := Tryz.underlying0
  a0 := Tryz.isAgg0
  z0 := Tryz.sizeOf0
  v0 := Tryz.zeroValue0
  t3 := Tryz.underlying3
  a3 := Tryz.isAgg3
  z3 := Tryz.sizeOf3
  v3 := Tryz.zeroValue3
  t4 := Tryz.underlying4
  a4 := Tryz.isAgg4
  z4 := Tryz.sizeOf4
  v4 := Tryz.zeroValue4
  t5 := Tryz.underlying5
  a5 := Tryz.isAgg5
  z5 := Tryz.sizeOf5
  v5 := Tryz.zeroValue5
  t9 := Tryz.underlying9
  a9 := Tryz.isAgg9
  z9 := Tryz.sizeOf9
  v9 := Tryz.zeroValue9
  t22 := Tryz.underlying29
  a22 := Tryz.isAgg29
  z22 := Tryz.sizeOf29
  v22 := Tryz.zeroValue29
  t25 := Tryz.underlying132
  a25 := Tryz.isAgg132
  z25 := Tryz.sizeOf132
  v25 := Tryz.zeroValue132
  t39 := Tryz.underlying94
  a39 := Tryz.isAgg94
  z39 := Tryz.sizeOf94
  v39 := Tryz.zeroValue94
  t45 := Tryz.underlying194
  a45 := Tryz.isAgg194
  z45 := Tryz.sizeOf194
  v45 := Tryz.zeroValue194
  t46 := Tryz.underlying195
  a46 := Tryz.isAgg195
  z46 := Tryz.sizeOf195
  v46 := Tryz.zeroValue195
  t50 := Tryz.underlying161
  a50 := Tryz.isAgg161
  z50 := Tryz.sizeOf161
  v50 := Tryz.zeroValue161
  t53 := Tryz.underlying125
  a53 := Tryz.isAgg125
  z53 := Tryz.sizeOf125
  v53 := Tryz.zeroValue125
  t55 := Tryz.underlying31
  a55 := Tryz.isAgg31
  z55 := Tryz.sizeOf31
  v55 := Tryz.zeroValue31
  t66 := Tryz.underlying211
  a66 := Tryz.isAgg211
  z66 := Tryz.sizeOf211
  v66 := Tryz.zeroValue211
  t70 := Tryz.underlying215
  a70 := Tryz.isAgg215
  z70 := Tryz.sizeOf215
  v70 := Tryz.zeroValue215
  t76 := Tryz.underlying219
  a76 := Tryz.isAgg219
  z76 := Tryz.sizeOf219
  v76 := Tryz.zeroValue219
  t77 := Tryz.underlying220
  a77 := Tryz.isAgg220
  z77 := Tryz.sizeOf220
  v77 := Tryz.zeroValue220 }
end Go.Proofs.YtmefpnklgfhggaaGreatDoor

/- Layer 10: SortFunc by the library's contract; Compact; Of. -/
namespace Go.Proofs.YtmefpnklgfhggaaGreatDoor
open Go.RowKit

theorem rd_box {w : World} {g : Nat} {t : TypeId} {l : List Nat} (h : Blk w g t (u8s l)) : Rd w (some ⟨g, 0, none⟩) (l.map bv) := by
  have := Rd.of_blk0 h
  simpa [u8s] using this
set_option maxRecDepth 100000 in
/-- Sum.Cmp, its world to the letter. -/
theorem cmpW (x y : Sm) (w : World) : Calls Tryz.prog 63 #[.agg (u8s x.l), .agg (u8s y.l)] w fun e w' => e = .returned (.int .i64 (cmpL x.l y.l)) ∧ ∃ q os, w' = Sort.grow (w.drewN q) os := by
  have h0 : Blk ((w.alloc (.cells (u8s x.l) 28)).alloc (.cells (u8s y.l) 28)) w.heap.size 28 (u8s x.l) := (Blk.new w _ _).alloc _
  have h1 : Blk ((w.alloc (.cells (u8s x.l) 28)).alloc (.cells (u8s y.l) 28)) (w.heap.size + 1) 28 (u8s y.l) := Blk.newAt (w.alloc _) _ _ _ (by simp)
  have hc : ∀ n, Calls Tryz.prog 95 #[.slice (some ⟨w.heap.size, 0, none⟩) 32 32, .slice (some ⟨w.heap.size + 1, 0, none⟩) 32 32] (((w.alloc (.cells (u8s x.l) 28)).alloc (.cells (u8s y.l) 28)).drewN n)
      fun e w' => e = .returned (.int .i64 (cmpL x.l y.l)) ∧ w' = (((w.alloc (.cells (u8s x.l) 28)).alloc (.cells (u8s y.l) 28)).drewN n) := fun n =>
    Compare_any _ _ 32 32 32 32 x.l y.l _ x.len y.len (rd_box (h0.drewN n)) (rd_box (h1.drewN n)) (by simp) (by simp) x.lt y.lt
  have HC := Lib.hid hc
  clear hc h0 h1
  generalize cmpL x.l y.l = r at *
  go_enter Tryz.func63, Tryz.ntmps63
  go_wp2_with fail
  go_quiet ((go_at_call 95; exact Calls.quiet_of_same (HC.out _)))
  go_wp2_with fail
  go_ret
  exact ⟨rfl, _, _, by rw [Sort.alloc_eq_grow, Sort.alloc_eq_grow, Sort.grow_grow]; rfl⟩

/-! ### Sorted -/
def ltS (x y : Sm) : Bool := decide (cmpL x.l y.l < 0)
def sortL (D : List Sm) : List Sm := D.mergeSort fun x y => !ltS y x
theorem sortL_len (D : List Sm) : (sortL D).length = D.length := by simp [sortL]
theorem ltS_swo : Sort.SWO (ltOf fun x y : Sm => cmpL x.l y.l) where
  irrefl x := by
    show decide (cmpL x.l x.l < 0) = false
    rw [(cmpL_eq x.l x.l).2 rfl]
    rfl
  trans x y z h1 h2 := by
    unfold ltOf at *
    simp only [decide_eq_true_eq] at *
    exact (cmpL_trans x.l y.l z.l (by omega) (by omega)).2 (.inl h1)
  ntrans x y z h1 h2 := by
    unfold ltOf at *
    simp only [decide_eq_false_iff_not] at *
    have s1 := cmpL_swap x.l y.l
    have s2 := cmpL_swap y.l z.l
    have s3 := cmpL_swap x.l z.l
    have := (cmpL_trans z.l y.l x.l (by omega) (by omega)).1
    omega
theorem flatK_flat (D : List Sm) : Sort.flatK Sm.enc 32 D.toArray = (flat D).toArray := by
  refine Sort.ext_get! (by simp [flat_len]) fun t ht => ?_
  have ht' : t < D.length * 32 := by simpa using ht
  have hq : t / 32 < D.length := by omega
  rw [Sort.get_flatK _ _ _ _ (by simpa using ht')]
  have e1 : D.toArray[t / 32]! = D.getD (t / 32) default := by simp [List.getD, hq]
  have hfl := flat_at D hq
  have hg : (flat D)[t]? = (D.getD (t / 32) default).enc[t % 32]? := by
    have h1 : ((flat D).drop (t / 32 * 32))[t % 32]? = (flat D)[t]? := by rw [List.getElem?_drop]; congr 1; omega
    rw [← h1, hfl, List.getElem?_append_left (by rw [enc_len]; omega)]
  rw [e1]
  have h2 : t % 32 < (D.getD (t / 32) default).enc.length := by rw [enc_len]; omega
  have h3 : t < (flat D).length := by rw [flat_len]; exact ht'
  rw [getElem!_pos (D.getD (t / 32) default).enc (t % 32) h2]
  rw [getElem!_pos (flat D).toArray t (by simpa using h3)]
  rw [List.getElem?_eq_getElem h3, List.getElem?_eq_getElem h2] at hg
  injection hg with hg
  simpa using hg.symm
theorem holds_seg {w : World} {e : TypeId} {g off cap : Nat} {D : List Sm} (h : SegL w e 32 g off D.length cap (flat D)) : Sort.HoldsK Sm.enc 32 w g off D.toArray := by
  obtain ⟨hl, hn, hm, cs, hb, hs, hx⟩ := h
  unfold Sort.HoldsK
  rw [flatK_flat]
  intro j hj
  have hj' : j < (flat D).length := by simpa using hj
  have hj2 : j < D.length * 32 := by rw [← flat_len]; exact hj'
  refine ⟨?_, hb.frozen _⟩
  rw [hb.cell, hx j hj2, List.getElem?_eq_getElem hj', getElem!_pos (flat D).toArray j hj]
  simp
theorem seg_sorted {w : World} {e : TypeId} {g off cap n : Nat} {D : List Sm} (D' : List Sm) (os : Array Obj) (h : SegL w e 32 g off D.length cap (flat D)) (hl' : D'.length = D.length) :
    SegL (sortWorldK Sm.enc 32 w g off n D'.toArray os) e 32 g off D.length cap (flat D') ∧ Keeps [g] w (sortWorldK Sm.enc 32 w g off n D'.toArray os) := by
  obtain ⟨hl, hn, hm, cs, hb, hs, hx⟩ := h
  have hle : D.length * 32 ≤ cap * 32 := Nat.mul_le_mul_right _ hn
  unfold sortWorldK Sort.putRowK
  rw [flatK_flat]
  have hfl : (flat D').length = D.length * 32 := by rw [flat_len, hl']
  have hsz : ∀ W : World, (Sort.putRow id W g off (flat D').toArray).heap.size = W.heap.size := fun W => Sort.size_putRow id W g off _
  have hblk : (Sort.grow (Sort.putRow id (Sort.ahead w n) g off (flat D').toArray) os).heap[g]? = some (.cells (Sort.putCells id off (flat D').toArray cs) e (0, 0)) := by
    have hgl : g < (Sort.putRow id (Sort.ahead w n) g off (flat D').toArray).heap.size := by rw [hsz]; exact hb.lt
    unfold Sort.grow
    simp only []
    rw [Array.getElem?_append_left hgl]
    unfold Sort.putRow Sort.mapBlock
    simp only [Array.getElem?_modify, if_true]
    have : (Sort.ahead w n).heap[g]? = w.heap[g]? := rfl
    rw [this]
    unfold Blk at hb
    rw [hb]
    rfl
  refine ⟨⟨hfl, hn, hm, _, hblk, by simpa [Sort.putCells] using hs, fun j hj => ?_⟩, ⟨rfl, rfl, rfl, ?_, fun k hk hne => ?_⟩⟩
  · unfold Sort.putCells
    have hoj : off + j < cs.size := by omega
    rw [Array.getElem?_mapIdx, Array.getElem?_eq_getElem hoj]
    simp only [Option.map_some]
    have hjf : j < (flat D').length := by omega
    rw [if_pos (by simp; omega), show off + j - off = j by omega, getElem!_pos (flat D').toArray j (by simpa using hjf), List.getElem?_eq_getElem hjf]
    simp
  · show w.heap.size ≤ ((Sort.putRow id (Sort.ahead w n) g off (flat D').toArray).heap ++ os).size
    rw [Array.size_append, hsz]
    exact Nat.le_add_right _ _
  · show ((Sort.putRow id (Sort.ahead w n) g off (flat D').toArray).heap ++ os)[k]? = w.heap[k]?
    rw [Array.getElem?_append_left (by rw [hsz]; exact hk)]
    unfold Sort.putRow Sort.mapBlock
    simp only [Array.getElem?_modify]
    rw [if_neg (fun h => hne (by simp [h]))]
    rfl
theorem sort_any (D : List Sm) (w : World) (g off cap : Nat) (hs : SegL w 28 32 g off D.length cap (flat D)) (hD : D.length ≤ 1000000) :
    Calls Tryz.prog 68 #[.slice (some ⟨g, off, none⟩) D.length cap, .func (.func 63) #[] #[]] w fun e w' => ∃ u, e = .returned u ∧ SegL w' 28 32 g off D.length cap (flat (sortL D)) ∧ Keeps [g] w w' := by
  have h := AnyQ.slices_SortFunc_total laysSortS 32 Tryz.isAgg28 Tryz.sizeOf28 Sm.enc enc_len (fun x v hv => enc_one x v hv) (fun x y : Sm => cmpL x.l y.l) ltS_swo 63 #[] g off cap D.toArray w (fun args w => by kernel_rfl)
    (fun _ _ _ _ x y => cmpW x y _) (holds_seg hs) hs.lt (by simp; omega) (fun x y h1 h2 => by
      unfold ltOf at h1 h2
      simp only [decide_eq_false_iff_not] at h1 h2
      have h3 := cmpL_swap x.l y.l
      exact Sm.ext_l ((cmpL_eq x.l y.l).1 (by omega)))
  refine Calls.mono h fun e w' ⟨he, n, os, hw⟩ => ⟨_, he, ?_⟩
  subst hw
  exact seg_sorted (sortL D) os hs (sortL_len D)
theorem sort_none (w : World) : Calls Tryz.prog 68 #[.slice none 0 0, .func (.func 63) #[] #[]] w fun e w' => ∃ u, e = .returned u ∧ w' = w :=
  Calls.mono (AnyF.slices_SortFunc_none laysSortS none 0 (.func (.func 63) #[] #[]) w) fun _ _ ⟨h1, h2⟩ => ⟨_, h1, h2⟩
end Go.Proofs.YtmefpnklgfhggaaGreatDoor

/- Layer 10: the walks of Compact, Of. -/
namespace Go.Proofs.YtmefpnklgfhggaaGreatDoor
open Go.RowKit

/-- The first m, of alike neighbours only the first. -/
def ddL (D : List Sm) : Nat → List Sm
  | 0 => []
  | m + 1 => if m = 0 ∨ ¬ D.getD m default = D.getD (m - 1) default then ddL D m ++ [D.getD m default] else ddL D m
theorem ddL_le (D : List Sm) : ∀ m, (ddL D m).length ≤ m
  | 0 => Nat.le_refl _
  | m + 1 => by
    have := ddL_le D m
    unfold ddL
    split
    · simp; omega
    · omega
theorem ddL_new {D : List Sm} {m : Nat} (h : m = 0 ∨ ¬ D.getD m default = D.getD (m - 1) default) : ddL D (m + 1) = ddL D m ++ [D.getD m default] := by
  rw [ddL, if_pos h]
theorem ddL_old {D : List Sm} {m : Nat} (h0 : m ≠ 0) (h : D.getD m default = D.getD (m - 1) default) : ddL D (m + 1) = ddL D m := by
  rw [ddL, if_neg (by rintro (h1 | h1); exact h0 h1; exact h1 h)]
theorem take_snoc' (D : List Sm) {m : Nat} (h : m < D.length) : D.take (m + 1) = D.take m ++ [D.getD m default] := by
  rw [List.take_succ_eq_append_getElem h]
  simp [List.getD, List.getElem?_eq_getElem h]
theorem getD_set (D : List Sm) {i j : Nat} (x : Sm) (hi : i < D.length) : (D.set i x).getD j default = if i = j then x else D.getD j default := by
  simp only [List.getD, List.getElem?_set]
  by_cases h : i = j
  · subst h; simp [hi]
  · simp [h]
theorem getD_drop (D : List Sm) (k j : Nat) : (D.drop k).getD j default = D.getD (k + j) default := by
  simp [List.getD, List.getElem?_drop]

set_option maxRecDepth 100000 in
set_option maxHeartbeats 2000000 in
theorem compact_any (D : List Sm) (w : World) (g off cap : Nat) (hs0 : SegL w 28 32 g off D.length cap (flat D)) (hD : D.length ≤ 1000000) :
    Calls Tryz.prog 69 #[.slice (some ⟨g, off, none⟩) D.length cap] w fun e w' => ∃ k, e = .returned (.slice (some ⟨g, off, none⟩) k cap) ∧ k = (ddL D D.length).length ∧ SegL w' 28 32 g off k cap (flat (ddL D D.length)) ∧ Keeps [g] w w' := by
  have hcap : D.length ≤ cap := hs0.2.1
  refine enter_ty 61 [Ty.ex (.slice (some ⟨g, off, none⟩) D.length cap)] Tryz.func69 rfl (by kernel_rfl) ⟨rfl, trivial⟩ fun a hF => ?_
  have hB := Below.refl w.heap.size w
  repeat with_reducible refine wp_seq ?_
  refine' reg_all hF ?_ mixed (by kernel_rfl) ?_
  rotate_left
  · repeat (first | exact Line.nil | ((refine' Line.cons rfl (.run rfl rfl ?_) ?_); (any_goals exact cAssign rfl rfl); rotate_left))
  intro a w1 hF hb hN
  have hBs := hB.size
  replace hB := hB.trans (hb.mono hB.size)
  dsimp only [ext, Option.getD] at hF
  repeat with_reducible first | refine wp_seq ?_ | refine nThen ?_
  refine' reg_all hF ?_ mixed (by kernel_rfl) ?_
  rotate_left
  · repeat (first | exact Line.nil | ((refine' Line.cons rfl (.run rfl rfl ?_) ?_); (any_goals (first | exact cLenEx rfl rfl Tryz.underlying29 | exact cMove rfl rfl | exact cLss rfl rfl rfl)); rotate_left))
  intro a w2 hF hb hN
  have hBs := hB.size
  replace hB := hB.trans (hb.mono hB.size)
  dsimp only [ext, Option.getD] at hF
  repeat with_reducible refine nThen ?_
  refine cond_ty hF rfl (fun h0 => ?_) (fun h1 => ?_)
  · have h0 := of_decide_eq_true h0
    have hdd : ddL D D.length = D := by
      match D, h0 with
      | [], _ => rfl
      | [x], _ => simp [ddL]
      | x :: y :: r, h => simp at h; omega
    repeat with_reducible refine wp_seq ?_
    refine' reg_all hF ?_ mixed (by kernel_rfl) ?_
    rotate_left
    · repeat (first | exact Line.nil | ((refine' Line.cons rfl (.run rfl rfl ?_) ?_); (any_goals (first | exact cMove rfl rfl | exact cAssign rfl rfl)); rotate_left))
    intro a w3 hF hb hN
    have hBs := hB.size
    replace hB := hB.trans (hb.mono hB.size)
    dsimp only [ext, Option.getD] at hF
    repeat with_reducible first | refine nThen ?_ | refine wp_ret ?_ | refine rThen ?_
    refine ret1 hF rfl rfl fun z hz => ?_
    have hz : z = .slice (some ⟨g, off, none⟩) D.length cap := hz
    subst hz
    rw [hdd]
    exact ⟨D.length, rfl, rfl, hs0.below hB, Keeps.of_below hB⟩
  have h1 := of_decide_eq_false h1
  repeat with_reducible first | refine wp_seq ?_ | refine nThen ?_ | refine wp_skip ?_
  refine' reg_all hF ?_ mixed (by kernel_rfl) ?_
  rotate_left
  · repeat (first | exact Line.nil | ((refine' Line.cons rfl (.run rfl rfl ?_) ?_); (any_goals exact cAssign rfl rfl); rotate_left))
  intro a w3 hF hb hN
  have hBs := hB.size
  replace hB := hB.trans (hb.mono hB.size)
  dsimp only [ext, Option.getD] at hF
  repeat with_reducible first | refine nThen ?_ | refine wp_block ?_
  refine loop_ty (fun m a wr => ∃ k : Nat, k + m = D.length ∧ 1 ≤ k ∧ Fr 61 [(0, Ty.ex (.slice (some ⟨g, off, none⟩) D.length cap)), (3, Ty.ex (.int .i64 (k : Int)))] a wr ∧ Below w.heap.size w wr ∧ ddL D k = D.take k) (D.length - 1) ?_ ?_
  · refine ⟨1, by omega, Nat.le_refl _, hF.keep [0, 3], hB, ?_⟩
    rw [ddL_new (.inl rfl), take_snoc' D (by omega)]
    rfl
  clear hF hB
  rintro m a wr ⟨k, hk, hk1, hF, hB, hdd⟩
  repeat with_reducible refine wp_seq ?_
  refine' reg_all hF ?_ mixed (by kernel_rfl) ?_
  rotate_left
  · repeat (first | exact Line.nil | ((refine' Line.cons rfl (.run rfl rfl ?_) ?_); (any_goals (first | exact cLenEx rfl rfl Tryz.underlying29 | exact cMove rfl rfl | exact cLss rfl rfl rfl)); rotate_left))
  intro a w4 hF hb hN
  have hBs := hB.size
  replace hB := hB.trans (hb.mono hB.size)
  dsimp only [ext, Option.getD] at hF
  repeat with_reducible refine nThen ?_
  refine cond_ty hF rfl (fun hlt => ?_) (fun hge => ?_)
  rotate_left
  · have hge : ¬ k < D.length := by simpa using hge
    obtain rfl : k = D.length := by omega
    rw [List.take_length] at hdd
    repeat with_reducible first | refine wp_seq ?_ | refine nThen ?_ | refine wp_exit ?_ | refine xThen ?_ | refine xHere ?_
    refine' reg_all hF ?_ mixed (by kernel_rfl) ?_
    rotate_left
    · repeat (first | exact Line.nil | ((refine' Line.cons rfl (.run rfl rfl ?_) ?_); (any_goals (first | exact cMove rfl rfl | exact cAssign rfl rfl)); rotate_left))
    intro a w5 hF hb hN
    have hBs := hB.size
    replace hB := hB.trans (hb.mono hB.size)
    dsimp only [ext, Option.getD] at hF
    repeat with_reducible first | refine nThen ?_ | refine wp_ret ?_
    refine ret1 hF rfl rfl fun z hz => ?_
    have hz : z = .slice (some ⟨g, off, none⟩) D.length cap := hz
    subst hz
    rw [hdd]
    exact ⟨D.length, rfl, rfl, hs0.below hB, Keeps.of_below hB⟩
  have hlt : k < D.length := by simpa using hlt
  have hsl : (Ty.sums 28 D).p w4 (.slice (some ⟨g, off, none⟩) D.length cap) := (hs0.below hB).sl
  repeat with_reducible first | refine wp_seq ?_ | refine nThen ?_ | refine wp_skip ?_ | refine wp_block ?_
  refine' reg_all hF ?_ mixed (by kernel_rfl) ?_
  rotate_left
  · repeat (first | exact Line.nil | ((refine' Line.cons rfl (.run rfl rfl ?_) ?_); (any_goals (first | exact cSub (r := ((k - 1 : Nat) : Int)) rfl rfl rfl (by omega) | exact cIndexSum (k := k - 1) rfl (.l rfl hsl) rfl Tryz.underlying29 sizeS (by omega) | exact cIndexSum (k := k) rfl (.l rfl hsl) rfl Tryz.underlying29 sizeS hlt | exact cLoadSum rfl (.t rfl) Tryz.underlying28 sizeS | exact cEqlAgg rfl rfl rfl guardS (eqlS _ _) | exact cMove rfl rfl)); rotate_left))
  intro a w5 hF hb hN
  have hBs := hB.size
  replace hB := hB.trans (hb.mono hB.size)
  dsimp only [ext, Option.getD] at hF
  repeat with_reducible refine nThen ?_
  refine cond_ty hF rfl (fun hdup => ?_) (fun hnew => ?_)
  rotate_left
  · have hnew : ¬ D.getD k default = D.getD (k - 1) default := by simpa using hnew
    repeat with_reducible first | refine nThen ?_ | refine nBlk ?_ | refine wp_skip ?_
    refine' reg_all hF ?_ mixed (by kernel_rfl) ?_
    rotate_left
    · repeat (first | exact Line.nil | ((refine' Line.cons rfl (.run rfl rfl ?_) ?_); (any_goals (first | exact cAdd (r := ((k + 1 : Nat) : Int)) rfl rfl rfl (by omega) | exact cMove rfl rfl | exact cAssign rfl rfl)); rotate_left))
    intro a w6 hF hb hN
    have hBs := hB.size
    replace hB := hB.trans (hb.mono hB.size)
    dsimp only [ext, Option.getD] at hF
    repeat with_reducible refine nThen ?_
    refine ⟨m - 1, by omega, k + 1, by omega, by omega, hF.keep [0, 3], hB, ?_⟩
    rw [ddL_new (.inr hnew), hdd, take_snoc' D hlt]
  have hdup : D.getD k default = D.getD (k - 1) default := by simpa using hdup
  repeat with_reducible refine wp_seq ?_
  refine' reg_all hF ?_ mixed (by kernel_rfl) ?_
  rotate_left
  · repeat (first | exact Line.nil | ((refine' Line.cons rfl (.run rfl rfl ?_) ?_); (any_goals (first | exact cSliceLoEx rfl rfl rfl Tryz.underlying29 sizeS hlt hcap | exact cMove rfl rfl | exact cAssign rfl rfl)); rotate_left))
  intro a w6 hF hb hN
  have hBs := hB.size
  replace hB := hB.trans (hb.mono hB.size)
  dsimp only [ext, Option.getD] at hF
  repeat with_reducible first | refine wp_seq ?_ | refine nThen ?_
  refine' reg_all hF ?_ mixed (by kernel_rfl) ?_
  rotate_left
  · repeat (first | exact Line.nil | ((refine' Line.cons rfl (.run rfl rfl ?_) ?_); (any_goals exact cAssign rfl rfl); rotate_left))
  intro a w7 hF hb hN
  have hBs := hB.size
  replace hB := hB.trans (hb.mono hB.size)
  dsimp only [ext, Option.getD] at hF
  repeat with_reducible first | refine nThen ?_ | refine wp_block ?_
  refine loop_ty (fun m a wr => ∃ (q j : Nat) (E : List Sm), k + q + m = D.length ∧ 1 ≤ q ∧ E.length = D.length ∧ j = (ddL D (k + q)).length ∧ j ≤ k + q - 1 ∧ E.take j = ddL D (k + q) ∧ (∀ i, k + q - 1 ≤ i → E.getD i default = D.getD i default) ∧
      Fr 61 [(0, Ty.ex (.slice (some ⟨g, off, none⟩) D.length cap)), (4, Ty.ex (.slice (some ⟨g, off + k * 32, none⟩) (D.length - k) (cap - k))), (3, Ty.ex (.int .i64 (j : Int))), (5, Ty.ex (.int .i64 (q : Int)))] a wr ∧ SegL wr 28 32 g off D.length cap (flat E) ∧ Keeps [g] w wr) (D.length - (k + 1)) ?_ ?_
  · refine ⟨1, k, D, by omega, Nat.le_refl _, rfl, ?_, by omega, ?_, fun i _ => rfl, hF.keep [0, 4, 3, 5], hs0.below hB, Keeps.of_below hB⟩
    · rw [ddL_old (by omega) hdup, hdd]; simp; omega
    · rw [ddL_old (by omega) hdup, hdd]
  clear hF hB hsl hs0
  rintro m a wr ⟨q, j, E, hq, hq1, hE, hj, hjle, hjt, hsame, hF, hseg, hKw⟩
  have hB := Below.refl wr.heap.size wr
  have hs2 : (Ty.sums 28 (E.drop k)).p wr (.slice (some ⟨g, off + k * 32, none⟩) (D.length - k) (cap - k)) := by
    have h := hseg.drop_sl (k := k) (by omega)
    rw [flat_drop] at h
    show SlP _ _ _ (E.drop k).length _
    rw [List.length_drop, hE]
    exact h
  repeat with_reducible refine wp_seq ?_
  refine' reg_all hF ?_ mixed (by kernel_rfl) ?_
  rotate_left
  · repeat (first | exact Line.nil | ((refine' Line.cons rfl (.run rfl rfl ?_) ?_); (any_goals (first | exact cLenEx rfl rfl Tryz.underlying29 | exact cMove rfl rfl | exact cLss rfl rfl rfl)); rotate_left))
  intro a w8 hF hb hN
  have hBs := hB.size
  replace hB := hB.trans (hb.mono hB.size)
  dsimp only [ext, Option.getD] at hF
  repeat with_reducible refine nThen ?_
  refine cond_ty hF rfl (fun hlt2 => ?_) (fun hge2 => ?_)
  rotate_left
  · have hge2 : ¬ q < D.length - k := by simpa using hge2
    have hend : k + q = D.length := by omega
    rw [hend] at hj hjt
    have hjn : j < D.length := by omega
    repeat with_reducible first | refine wp_seq ?_ | refine nThen ?_ | refine wp_exit ?_ | refine xThen ?_ | refine xHere ?_
    refine' region_ty 3 mixed (by kernel_rfl) hF ?_ ?_
    rotate_left
    · simp only [List.take_succ_cons, List.take_zero]
      repeat (first | exact Line.nil | ((refine' Line.cons rfl (.run rfl rfl ?_) ?_); (any_goals (first | exact cSliceLoEx rfl rfl rfl Tryz.underlying29 sizeS hjn hcap | exact cMove rfl rfl)); rotate_left))
    intro a w9 hF hb hN
    have hBs := hB.size
    replace hB := hB.trans (hb.mono hB.size)
    simp only [List.take_succ_cons, List.take_zero, List.drop_succ_cons, List.drop_zero] at hF hN ⊢
    dsimp only [ext, Option.getD] at hF
    refine tlClear (Δ := [(0, Ty.ex (.slice (some ⟨g, off, none⟩) D.length cap)), (3, Ty.ex (.int .i64 (j : Int)))]) (k := j) hF rfl rfl rfl rfl Tryz.underlying29 infoS zero32_size zeroS_one (hseg.below hB) (by omega) (hF.keep [0, 3]) rfl ?_
    intro w10 zs hzl hF hseg2 hk2
    refine wpList_nil ?_
    repeat with_reducible first | refine wp_seq ?_ | refine nThen ?_
    replace hKw : Keeps [g] w w10 := (hKw.trans (Keeps.of_below hB)).trans hk2
    have hB := Below.refl w10.heap.size w10
    refine' reg_all hF ?_ mixed (by kernel_rfl) ?_
    rotate_left
    · repeat (first | exact Line.nil | ((refine' Line.cons rfl (.run rfl rfl ?_) ?_); (any_goals (first | exact cSliceHiEx rfl rfl rfl Tryz.underlying29 sizeS (by omega) | exact cMove rfl rfl | exact cAssign rfl rfl)); rotate_left))
    intro a w11 hF hb hN
    have hBs := hB.size
    replace hB := hB.trans (hb.mono hB.size)
    dsimp only [ext, Option.getD] at hF
    repeat with_reducible first | refine nThen ?_ | refine wp_ret ?_ | refine rThen ?_ | refine rBlk ?_
    refine ret1 hF rfl rfl fun z hz => ?_
    have hz : z = .slice (some ⟨g, off, none⟩) j cap := hz
    subst hz
    refine ⟨j, rfl, hj, ?_, hKw.trans (Keeps.of_below hB)⟩
    have h5 := (hseg2.below hB).take (k := j) (by omega)
    have h6 : (over (flat E) (j * 32) zs).take (j * 32) = flat (ddL D D.length) := by
      unfold over
      rw [List.append_assoc, List.take_append_of_le_length (by rw [List.length_take, flat_len]; omega), List.take_take, Nat.min_self, flat_take, hjt]
    rwa [h6] at h5
  have hlt2 : q < D.length - k := by simpa using hlt2
  have hs2' := (Ty.sums 28 (E.drop k)).below hs2 hB
  have e1 : (E.drop k).getD q default = D.getD (k + q) default := by rw [getD_drop]; exact hsame _ (by omega)
  have e2 : (E.drop k).getD (q - 1) default = D.getD (k + q - 1) default := by rw [getD_drop, show k + (q - 1) = k + q - 1 by omega]; exact hsame _ (by omega)
  repeat with_reducible first | refine wp_seq ?_ | refine nThen ?_ | refine wp_skip ?_ | refine wp_block ?_
  refine' reg_all hF ?_ mixed (by kernel_rfl) ?_
  rotate_left
  · repeat (first | exact Line.nil | ((refine' Line.cons rfl (.run rfl rfl ?_) ?_); (any_goals (first | exact cSub (r := ((q - 1 : Nat) : Int)) rfl rfl rfl (by omega) | exact cIndexSum (k := q - 1) rfl (.l rfl hs2') rfl Tryz.underlying29 sizeS (by simp; omega) | exact cIndexSum (k := q) rfl (.l rfl hs2') rfl Tryz.underlying29 sizeS (by simp; omega) | exact cLoadSum rfl (.t rfl) Tryz.underlying28 sizeS | exact cNeqAgg rfl rfl rfl guardS (neqS _ _) | exact cMove rfl rfl)); rotate_left))
  intro a w9 hF hb hN
  have hBs := hB.size
  replace hB := hB.trans (hb.mono hB.size)
  dsimp only [ext, Option.getD] at hF
  repeat with_reducible refine nThen ?_
  rw [e1, e2] at hF
  refine cond_ty hF rfl (fun hnew => ?_) (fun hold => ?_)
  · have hnew : ¬ D.getD (k + q) default = D.getD (k + q - 1) default := by simpa using hnew
    have hs3 := (Ty.sums 28 (E.drop k)).below hs2 hB
    repeat with_reducible refine wp_seq ?_
    refine' region_ty 7 mixed (by kernel_rfl) hF ?_ ?_
    rotate_left
    · simp only [List.take_succ_cons, List.take_zero]
      repeat (first | exact Line.nil | ((refine' Line.cons rfl (.run rfl rfl ?_) ?_); (any_goals (first | exact cIndexSum (k := q) rfl (.l rfl hs3) rfl Tryz.underlying29 sizeS (by simp; omega) | exact cLoadSum rfl (.t rfl) Tryz.underlying28 sizeS | exact cIndexEx (k := j) rfl rfl rfl Tryz.underlying29 sizeS (by omega) | exact cMove rfl rfl)); rotate_left))
    intro a w10 hF hb hN
    have hBs := hB.size
    replace hB := hB.trans (hb.mono hB.size)
    simp only [List.take_succ_cons, List.take_zero, List.drop_succ_cons, List.drop_zero] at hF hN ⊢
    dsimp only [ext, Option.getD] at hF
    rw [e1] at hF
    refine tlStoreAt (Δ := [(0, Ty.ex (.slice (some ⟨g, off, none⟩) D.length cap)), (4, Ty.ex (.slice (some ⟨g, off + k * 32, none⟩) (D.length - k) (cap - k))), (3, Ty.ex (.int .i64 (j : Int))), (5, Ty.ex (.int .i64 (q : Int)))]) (k := j * 32) hF rfl rfl rfl rfl rfl (hseg.below hB) (by rw [u8s_size, Sm.len]; omega) (by rw [u8s_size, Sm.len]; exact sizeS) (u8s_one _) (hF.keep [0, 4, 3, 5]) rfl ?_
    intro w11 hF hseg2 hk2
    refine wpList_nil ?_
    repeat with_reducible refine nThen ?_
    replace hKw : Keeps [g] w w11 := (hKw.trans (Keeps.of_below hB)).trans hk2
    have hB := Below.refl w11.heap.size w11
    refine' reg_all hF ?_ mixed (by kernel_rfl) ?_
    rotate_left
    · repeat (first | exact Line.nil | ((refine' Line.cons rfl (.run rfl rfl ?_) ?_); (any_goals (first | exact cAdd (r := ((j + 1 : Nat) : Int)) rfl rfl rfl (by omega) | exact cMove rfl rfl | exact cAssign rfl rfl)); rotate_left))
    intro a w12 hF hb hN
    have hBs := hB.size
    replace hB := hB.trans (hb.mono hB.size)
    dsimp only [ext, Option.getD] at hF
    repeat with_reducible first | refine nThen ?_ | refine nBlk ?_
    refine' reg_all hF ?_ mixed (by kernel_rfl) ?_
    rotate_left
    · repeat (first | exact Line.nil | ((refine' Line.cons rfl (.run rfl rfl ?_) ?_); (any_goals (first | exact cAdd (r := ((q + 1 : Nat) : Int)) rfl rfl rfl (by omega) | exact cMove rfl rfl | exact cAssign rfl rfl)); rotate_left))
    intro a w13 hF hb hN
    have hBs := hB.size
    replace hB := hB.trans (hb.mono hB.size)
    dsimp only [ext, Option.getD] at hF
    repeat with_reducible refine nThen ?_
    have h7 : over (flat E) (j * 32) (u8s (D.getD (k + q) default).l).toList = flat (E.set j (D.getD (k + q) default)) := by
      rw [u8s_list]
      exact over_flat E _ (by omega)
    rw [h7] at hseg2
    have hdd2 : ddL D (k + (q + 1)) = ddL D (k + q) ++ [D.getD (k + q) default] := ddL_new (.inr hnew)
    refine ⟨m - 1, by omega, q + 1, j + 1, E.set j (D.getD (k + q) default), by omega, by omega, by simp [hE], ?_, by omega, ?_, fun i hi => ?_, hF.keep [0, 4, 3, 5], hseg2.below hB, hKw.trans (Keeps.of_below hB)⟩
    · rw [hdd2, List.length_append, ← hj]; rfl
    · rw [hdd2, ← hjt, take_snoc' _ (by rw [List.length_set]; omega), getD_set E _ (by omega), if_pos rfl, List.take_set_of_le (Nat.le_refl _)]
    · rw [getD_set E _ (by omega), if_neg (by omega)]
      exact hsame i (by omega)
  · have hold : D.getD (k + q) default = D.getD (k + q - 1) default := by simpa using hold
    repeat with_reducible first | refine nThen ?_ | refine nBlk ?_ | refine wp_skip ?_
    refine' reg_all hF ?_ mixed (by kernel_rfl) ?_
    rotate_left
    · repeat (first | exact Line.nil | ((refine' Line.cons rfl (.run rfl rfl ?_) ?_); (any_goals (first | exact cAdd (r := ((q + 1 : Nat) : Int)) rfl rfl rfl (by omega) | exact cMove rfl rfl | exact cAssign rfl rfl)); rotate_left))
    intro a w10 hF hb hN
    have hBs := hB.size
    replace hB := hB.trans (hb.mono hB.size)
    dsimp only [ext, Option.getD] at hF
    repeat with_reducible refine nThen ?_
    have hdd2 : ddL D (k + (q + 1)) = ddL D (k + q) := ddL_old (m := k + q) (by omega) hold
    exact ⟨m - 1, by omega, q + 1, j, E, by omega, by omega, hE, by rw [hdd2]; exact hj, by omega, by rw [hdd2]; exact hjt, fun i hi => hsame i (by omega), hF.keep [0, 4, 3, 5], hseg.below hB, hKw.trans (Keeps.of_below hB)⟩

set_option maxRecDepth 100000 in
theorem compact_none (w : World) : Calls Tryz.prog 69 #[.slice none 0 0] w fun e w' => e = .returned (.slice none 0 0) ∧ Below w.heap.size w w' := by
  refine enter_ty 61 [Ty.ex (.slice none 0 0)] Tryz.func69 rfl (by kernel_rfl) ⟨rfl, trivial⟩ fun a hF => ?_
  have hB := Below.refl w.heap.size w
  repeat with_reducible refine wp_seq ?_
  refine' reg_all hF ?_ mixed (by kernel_rfl) ?_
  rotate_left
  · repeat (first | exact Line.nil | ((refine' Line.cons rfl (.run rfl rfl ?_) ?_); (any_goals exact cAssign rfl rfl); rotate_left))
  intro a w1 hF hb hN
  have hBs := hB.size
  replace hB := hB.trans (hb.mono hB.size)
  dsimp only [ext, Option.getD] at hF
  repeat with_reducible first | refine wp_seq ?_ | refine nThen ?_
  refine' reg_all hF ?_ mixed (by kernel_rfl) ?_
  rotate_left
  · repeat (first | exact Line.nil | ((refine' Line.cons rfl (.run rfl rfl ?_) ?_); (any_goals (first | exact cLenEx rfl rfl Tryz.underlying29 | exact cMove rfl rfl | exact cLss rfl rfl rfl)); rotate_left))
  intro a w2 hF hb hN
  have hBs := hB.size
  replace hB := hB.trans (hb.mono hB.size)
  dsimp only [ext, Option.getD] at hF
  repeat with_reducible refine nThen ?_
  refine cond_ty hF rfl (fun h0 => ?_) (fun h1 => ?_)
  · repeat with_reducible refine wp_seq ?_
    refine' reg_all hF ?_ mixed (by kernel_rfl) ?_
    rotate_left
    · repeat (first | exact Line.nil | ((refine' Line.cons rfl (.run rfl rfl ?_) ?_); (any_goals (first | exact cMove rfl rfl | exact cAssign rfl rfl)); rotate_left))
    intro a w3 hF hb hN
    have hBs := hB.size
    replace hB := hB.trans (hb.mono hB.size)
    dsimp only [ext, Option.getD] at hF
    repeat with_reducible first | refine nThen ?_ | refine wp_ret ?_ | refine rThen ?_
    refine ret1 hF rfl rfl fun z hz => ?_
    have hz : z = .slice none 0 0 := hz
    subst hz
    exact ⟨rfl, hB⟩
  · exact absurd (of_decide_eq_false h1) (by decide)

/-- A set's row: sorted, each once. -/
def setL (D : List Sm) : List Sm := ddL (sortL D) D.length
theorem setL_len (D : List Sm) : (setL D).length ≤ D.length := ddL_le _ _
set_option maxRecDepth 100000 in
set_option maxHeartbeats 1000000 in
theorem of_ty (D : List Sm) (hD : D.length ≤ 1000000) : FnSeg1 Tryz.prog 39 (Ty.sums 28 D) 28 32 (setL D).length (flat (setL D)) := by
  refine ⟨fun args w => by kernel_rfl, fun w v hv => ?_⟩
  refine enter_ty 10 [Ty.sums 28 D] Tryz.func39 rfl (by kernel_rfl) ⟨hv, trivial⟩ fun a hF => ?_
  have hB := Below.refl w.heap.size w
  repeat with_reducible refine wp_seq ?_
  refine' reg_all hF ?_ mixed (by kernel_rfl) ?_
  rotate_left
  · repeat (first | exact Line.nil | ((refine' Line.cons rfl (.run rfl rfl ?_) ?_); (any_goals exact cAssign rfl rfl); rotate_left))
  intro a w1 hF hb hN
  have hBs := hB.size
  replace hB := hB.trans (hb.mono hB.size)
  dsimp only [ext, Option.getD] at hF
  repeat with_reducible first | refine wp_seq ?_ | refine nThen ?_
  refine' reg_all hF ?_ mixed (by kernel_rfl) ?_
  rotate_left
  · repeat (first | exact Line.nil | ((refine' Line.cons rfl (.run rfl rfl ?_) ?_); (any_goals (first | exact cCallS1 rfl (.t rfl) (cloneS_ty D hD) | exact cMove rfl rfl | exact cAssign rfl rfl)); rotate_left))
  intro a w2 hF hb hN
  have hBs := hB.size
  replace hB := hB.trans (hb.mono hB.size)
  dsimp only [ext, Option.getD] at hF
  repeat with_reducible first | refine wp_seq ?_ | refine nThen ?_
  obtain ⟨u, ⟨S, hseg, hS⟩, hF⟩ := hF.open (s := 3) rfl
  replace hS : ∀ y ∈ S, w.heap.size ≤ y := fun y hy => Nat.le_trans hBs (hS y hy)
  have hen : Enters Tryz.prog 68 := fun args w => by kernel_rfl
  have hec : Enters Tryz.prog 69 := fun args w => by kernel_rfl
  rcases hseg.cases with ⟨rfl, h0, h1, rfl⟩ | ⟨g, off, cap, rfl, rfl, hl⟩
  · have hD0 : D = [] := List.eq_nil_of_length_eq_zero h0
    subst hD0
    refine' region_ty 1 mixed (by kernel_rfl) hF ?_ ?_
    rotate_left
    · simp only [List.take_succ_cons, List.take_zero]
      repeat (first | exact Line.nil | ((refine' Line.cons rfl (.run rfl rfl ?_) ?_); (any_goals exact cMove rfl rfl); rotate_left))
    intro a w3 hF hb hN
    have hBs := hB.size
    replace hB := hB.trans (hb.mono hB.size)
    simp only [List.take_succ_cons, List.take_zero, List.drop_succ_cons, List.drop_zero] at hF hN ⊢
    dsimp only [ext, Option.getD] at hF
    refine tlCall rfl rfl rfl (args := #[.slice none 0 0, .func (.func 63) #[] #[]]) ?_ hen (sort_none w3) ?_
    · simp only [List.map_toArray, List.map_cons, List.map_nil, hF.getEx (s := 6) rfl]
      rfl
    rintro z w4 rfl
    have hF := (hF.keep [3]).put (d := 7) (by decide) (Below.refl _ _) (V := Ty.ex z) rfl
    refine wpList_nil ?_
    repeat with_reducible first | refine wp_seq ?_ | refine nThen ?_
    refine' reg_all hF ?_ mixed (by kernel_rfl) ?_
    rotate_left
    · repeat (first | exact Line.nil | ((refine' Line.cons rfl (.run rfl rfl ?_) ?_); (any_goals (first | exact cCallW1 rfl rfl hec (fun W x hb hx => by have hx : x = .slice none 0 0 := hx; subst hx; exact (compact_none W).mono fun _ _ ⟨a, b⟩ => ⟨_, a, rfl, b⟩) (ρ := Ty.ex (.slice none 0 0)) | exact cMove rfl rfl | exact cAssign rfl rfl)); rotate_left))
    intro a w5 hF hb hN
    have hBs := hB.size
    replace hB := hB.trans (hb.mono hB.size)
    dsimp only [ext, Option.getD] at hF
    repeat with_reducible first | refine nThen ?_ | refine wp_ret ?_
    refine ret1 hF rfl rfl fun z hz => ?_
    have hz : z = .slice none 0 0 := hz
    subst hz
    exact ⟨_, rfl, ⟨[], Seg.nil _ _ _, by simp⟩, hB⟩
  · have hg : w.heap.size ≤ g := hS g (by simp)
    refine' region_ty 1 mixed (by kernel_rfl) hF ?_ ?_
    rotate_left
    · simp only [List.take_succ_cons, List.take_zero]
      repeat (first | exact Line.nil | ((refine' Line.cons rfl (.run rfl rfl ?_) ?_); (any_goals exact cMove rfl rfl); rotate_left))
    intro a w3 hF hb hN
    have hBs := hB.size
    replace hB := hB.trans (hb.mono hB.size)
    simp only [List.take_succ_cons, List.take_zero, List.drop_succ_cons, List.drop_zero] at hF hN ⊢
    dsimp only [ext, Option.getD] at hF
    refine tlCall rfl rfl rfl (args := #[.slice (some ⟨g, off, none⟩) D.length cap, .func (.func 63) #[] #[]]) ?_ hen (sort_any D w3 g off cap (hl.below hb) hD) ?_
    · simp only [List.map_toArray, List.map_cons, List.map_nil, hF.getEx (s := 6) rfl]
      rfl
    rintro z w4 ⟨hl4, hk4⟩
    have hF := ((hF.keep [3]).free1 hk4 (hl.below hb) rfl).put (d := 7) (by decide) (Below.refl _ _) (V := Ty.ex z) rfl
    replace hB := below_own hB hk4 (by simpa using hg)
    refine wpList_nil ?_
    repeat with_reducible first | refine wp_seq ?_ | refine nThen ?_
    have hsl := sortL_len D
    refine' region_ty 1 mixed (by kernel_rfl) hF ?_ ?_
    rotate_left
    · simp only [List.take_succ_cons, List.take_zero]
      repeat (first | exact Line.nil | ((refine' Line.cons rfl (.run rfl rfl ?_) ?_); (any_goals exact cMove rfl rfl); rotate_left))
    intro a w5 hF hb hN
    have hBs := hB.size
    replace hB := hB.trans (hb.mono hB.size)
    simp only [List.take_succ_cons, List.take_zero, List.drop_succ_cons, List.drop_zero] at hF hN ⊢
    dsimp only [ext, Option.getD] at hF
    refine tlCall rfl rfl rfl (args := #[.slice (some ⟨g, off, none⟩) D.length cap]) ?_ hec (R := fun u w' => u = .slice (some ⟨g, off, none⟩) (setL D).length cap ∧ SegL w' 28 32 g off (setL D).length cap (flat (setL D)) ∧ Keeps [g] w5 w') ?_ ?_
    · simp only [List.map_toArray, List.map_cons, List.map_nil, hF.getEx (s := 8) rfl]
    · have h := compact_any (sortL D) w5 g off cap (by rw [hsl]; exact hl4.below hb) (by omega)
      rw [hsl] at h
      refine h.mono fun e w' ⟨k, h1, h2, h3, h4⟩ => ?_
      subst h2
      exact ⟨_, h1, rfl, h3, h4⟩
    rintro z w6 ⟨rfl, hl6, hk6⟩
    have hF := ((hF.keep []).free1 hk6 (hl4.below hb) rfl).put (d := 9) (by decide) (Below.refl _ _) (V := Ty.ex (.slice (some ⟨g, off, none⟩) (setL D).length cap)) rfl
    replace hB := below_own hB hk6 (by simpa using hg)
    refine' tlOp hF rfl rfl rfl ?_ ?_
    rotate_left
    · exact cAssign rfl rfl
    intro a w7 hF hb
    have hBs := hB.size
    replace hB := hB.trans (hb.mono hB.size)
    try (refine wpList_nil ?_)
    repeat with_reducible first | refine nThen ?_ | refine wp_ret ?_
    refine ret1 hF rfl rfl fun z hz => ?_
    have hz : z = .slice (some ⟨g, off, none⟩) (setL D).length cap := hz
    subst hz
    exact ⟨_, rfl, ⟨[g], (hl6.below hb).seg, by simpa using hg⟩, hB⟩
end Go.Proofs.YtmefpnklgfhggaaGreatDoor

/- Layer 10, plainly: a set's row is strictly rising, holds the same. -/
namespace Go.Proofs.YtmefpnklgfhggaaGreatDoor
open Go.RowKit

def srt (L : List Sm) : Prop := L.Pairwise fun x y => cmpL x.l y.l < 0
theorem Sm.ext' {x y : Sm} (h : x.l = y.l) : x = y := by
  cases x; cases y; simp only at h; subst h; rfl
theorem cmp_self (x : Sm) : cmpL x.l x.l = 0 := (cmpL_eq _ _).2 rfl
theorem cmp_zero {x y : Sm} : cmpL x.l y.l = 0 ↔ x = y := ⟨fun h => Sm.ext' ((cmpL_eq _ _).1 h), fun h => by rw [h]; exact cmp_self y⟩
theorem cmp_lt_trans {x y z : Sm} (h1 : cmpL x.l y.l ≤ 0) (h2 : cmpL y.l z.l ≤ 0) (h : cmpL x.l y.l < 0 ∨ cmpL y.l z.l < 0) : cmpL x.l z.l < 0 := (cmpL_trans _ _ _ h1 h2).2 h
theorem sortL_le (D : List Sm) : (sortL D).Pairwise fun x y => cmpL x.l y.l ≤ 0 := by
  have h := List.pairwise_mergeSort (le := fun x y : Sm => !ltS y x) (fun a b c h1 h2 => by
    simp only [ltS, Bool.not_eq_true', decide_eq_false_iff_not] at *
    have s1 := cmpL_swap a.l b.l
    have s2 := cmpL_swap b.l c.l
    have s3 := cmpL_swap a.l c.l
    have := (cmpL_trans a.l b.l c.l (by omega) (by omega)).1
    omega) (fun a b => by
    simp only [ltS, Bool.or_eq_true, Bool.not_eq_true', decide_eq_false_iff_not] at *
    have s1 := cmpL_swap a.l b.l
    omega) D
  refine List.Pairwise.imp ?_ h
  intro x y h
  simp only [ltS, Bool.not_eq_true', decide_eq_false_iff_not] at h
  have s1 := cmpL_swap x.l y.l
  omega
theorem sortL_mem (D : List Sm) (x : Sm) : x ∈ sortL D ↔ x ∈ D := (List.mergeSort_perm D _).mem_iff
theorem le_get {D : List Sm} (h : D.Pairwise fun x y => cmpL x.l y.l ≤ 0) {i j : Nat} (hij : i < j) (hj : j < D.length) : cmpL (D.getD i default).l (D.getD j default).l ≤ 0 := by
  have h1 := List.pairwise_iff_getElem.1 h i j (by omega) hj hij
  simpa [List.getD, hj, show i < D.length by omega] using h1
theorem lt_get {D : List Sm} (h : srt D) {i j : Nat} (hij : i < j) (hj : j < D.length) : cmpL (D.getD i default).l (D.getD j default).l < 0 := by
  have h1 := List.pairwise_iff_getElem.1 h i j (by omega) hj hij
  simpa [List.getD, hj, show i < D.length by omega] using h1
theorem ddL_facts {D : List Sm} (h : D.Pairwise fun x y => cmpL x.l y.l ≤ 0) : ∀ m, m ≤ D.length → srt (ddL D m) ∧ ∀ x, x ∈ ddL D m ↔ ∃ j, j < m ∧ D.getD j default = x
  | 0, _ => ⟨List.Pairwise.nil, fun x => by simp [ddL]⟩
  | m + 1, hm => by
    obtain ⟨h1, h2⟩ := ddL_facts h m (by omega)
    by_cases hn : m = 0 ∨ ¬ D.getD m default = D.getD (m - 1) default
    · rw [ddL_new hn]
      constructor
      · refine List.pairwise_append.2 ⟨h1, List.pairwise_singleton _ _, fun x hx y hy => ?_⟩
        obtain ⟨j, hj, rfl⟩ := (h2 x).1 hx
        simp only [List.mem_singleton] at hy
        subst hy
        have hn : ¬ D.getD m default = D.getD (m - 1) default := hn.resolve_left (by omega)
        have a1 := le_get h (i := m - 1) (j := m) (by omega) (by omega)
        have a2 : ¬ cmpL (D.getD (m - 1) default).l (D.getD m default).l = 0 := fun e => hn (cmp_zero.1 e).symm
        by_cases hjm : j = m - 1
        · subst hjm; omega
        · exact cmp_lt_trans (le_get h (i := j) (j := m - 1) (by omega) (by omega)) a1 (.inr (by omega))
      · intro x
        rw [List.mem_append, h2, List.mem_singleton]
        constructor
        · rintro (⟨j, hj, rfl⟩ | rfl)
          · exact ⟨j, by omega, rfl⟩
          · exact ⟨m, by omega, rfl⟩
        · rintro ⟨j, hj, rfl⟩
          by_cases hjm : j = m
          · subst hjm; exact .inr rfl
          · exact .inl ⟨j, by omega, rfl⟩
    · have hn' : ¬ m = 0 ∧ D.getD m default = D.getD (m - 1) default := by
        refine ⟨fun e => hn (.inl e), Classical.byContradiction fun e => hn (.inr e)⟩
      rw [ddL_old hn'.1 hn'.2]
      refine ⟨h1, fun x => ?_⟩
      rw [h2]
      constructor
      · rintro ⟨j, hj, rfl⟩
        exact ⟨j, by omega, rfl⟩
      · rintro ⟨j, hj, rfl⟩
        by_cases hjm : j = m
        · subst hjm; exact ⟨j - 1, by omega, hn'.2.symm⟩
        · exact ⟨j, by omega, rfl⟩
theorem setL_srt (D : List Sm) : srt (setL D) := by
  have h := (ddL_facts (sortL_le D) D.length (by rw [sortL_len]; exact Nat.le_refl _)).1
  exact h
theorem setL_mem (D : List Sm) (x : Sm) : x ∈ setL D ↔ x ∈ D := by
  have h := (ddL_facts (sortL_le D) D.length (by rw [sortL_len]; exact Nat.le_refl _)).2 x
  refine h.trans ?_
  rw [← sortL_mem D x, mem_get, sortL_len]
theorem srt_nodup {L : List Sm} (h : srt L) : L.Nodup := List.Pairwise.imp (fun {a b} h e => by subst e; rw [cmp_self] at h; omega) h
theorem srt_ext : ∀ {L M : List Sm}, srt L → srt M → (∀ x, x ∈ L ↔ x ∈ M) → L = M
  | [], [], _, _, _ => rfl
  | [], y :: M, _, _, h => absurd ((h y).2 (by simp)) (by simp)
  | x :: L, [], _, _, h => absurd ((h x).1 (by simp)) (by simp)
  | x :: L, y :: M, hL, hM, h => by
    obtain ⟨a1, a2⟩ := List.pairwise_cons.1 hL
    obtain ⟨b1, b2⟩ := List.pairwise_cons.1 hM
    have hxy : x = y := by
      rcases List.mem_cons.1 ((h x).1 (by simp)) with e | e
      · exact e
      rcases List.mem_cons.1 ((h y).2 (by simp)) with e' | e'
      · exact e'.symm
      have c1 := b1 x e
      have c2 := a1 y e'
      have := cmpL_swap x.l y.l
      omega
    subst hxy
    congr 1
    refine srt_ext a2 b2 fun z => ?_
    have hz := h z
    simp only [List.mem_cons] at hz
    constructor
    · intro hz1
      rcases hz.1 (.inr hz1) with e | e
      · subst e; have := a1 z hz1; rw [cmp_self] at this; omega
      · exact e
    · intro hz1
      rcases hz.2 (.inr hz1) with e | e
      · subst e; have := b1 z hz1; rw [cmp_self] at this; omega
      · exact e
theorem goodL_srt {L : List Sm} (h : srt L) : goodL L = decide (L.length ≤ 512) := goodL_all fun k hk => lt_get h (by omega) hk
theorem setL_self {L : List Sm} (h : srt L) : setL L = L := srt_ext (setL_srt L) h (setL_mem L)
theorem srt_filter {L : List Sm} (h : srt L) (p : Sm → Bool) : srt (L.filter p) := List.Pairwise.filter p h
end Go.Proofs.YtmefpnklgfhggaaGreatDoor

/- Layer 14 by types: ints, awake. -/
namespace Go.Proofs.YtmefpnklgfhggaaGreatDoor
open Go.RowKit

theorem ivn_drop {L : List Nat} {k : Nat} (h : k < L.length) : (L.map ivn).drop k = ivn (L.getD k 0) :: (L.map ivn).drop (k + 1) := by
  have h1 : k < (L.map ivn).length := by rw [List.length_map]; exact h
  rw [List.drop_eq_getElem_cons h1]
  congr 1
  rw [List.getElem_map]
  simp [List.getD, List.getElem?_eq_getElem h]
theorem sizeI : (Tryz.prog.info? 3).map (·.size) = some 1 := by kernel_rfl
end Go.Proofs.YtmefpnklgfhggaaGreatDoor

/- Layer 15 by types: table.Of. -/
namespace Go.Proofs.YtmefpnklgfhggaaGreatDoor
open Go.RowKit

theorem cAllocN {P : Program} {w0 : World} {Γ : Ctx} {o : Oper} {t : TypeId} {z : Array Value} (ho : o.op = .alloc t) (hz : ∀ w : World, (Instr.alloc t true (.tuple #[])).run P w = .ok (.pointer (some ⟨w.heap.size, 0, none⟩)) (w.alloc (.cells z t))) : OpOk P w0 Γ o (Ty.var w0 t z) :=
  .new fun a w hb _ => ⟨_, _, ⟨w.heap.size, rfl, hb.size, Blk.new w _ _⟩, ((Keeps.refl [] w).alloc _).below, by unfold execOp; simp [ho, hz]⟩
section
variable {P : Program} {w0 : World} {Γ : Ctx} {o : Oper} {x : Operand} {e : TypeId} {seed : Nat} {L : List Cl} {err : Value} {w1 : World}
theorem cExtT (ho : o.op = .extract x 0) (hx : OpT Γ x (Ty.tabE w1 e seed L err)) : OpOk P w0 Γ o (Ty.tabO w1 e seed L) :=
  .val fun a w _ hs => by
    obtain ⟨v, h1, u, h2, h3⟩ := hs x _ (by simp [ho, Op.operands]) hx
    refine ⟨u, h3, ?_⟩
    unfold execOp
    simp [ho, h1, h2, Instr.extract]
theorem cExtE (ho : o.op = .extract x 1) (hx : OpT Γ x (Ty.tabE w1 e seed L err)) : OpOk P w0 Γ o (Ty.ex err) :=
  .val fun a w _ hs => by
    obtain ⟨v, h1, u, h2, h3⟩ := hs x _ (by simp [ho, Op.operands]) hx
    refine ⟨err, rfl, ?_⟩
    unfold execOp
    simp [ho, h1, h2, Instr.extract]
end
theorem placesN_len3 (seed : Nat) (n : Int) (x : Sm) : (placesN seed n x).length ≤ 3 := by
  unfold placesN
  split
  · rw [plc_len]; exact Nat.le_refl _
  · simp
/-- The cells of a set's table. -/
def ofL (seed : Nat) (n : Int) (D : List Sm) : List Cl := if goodN n then tall seed (tzero n.toNat) (setL D) 1 else []
theorem tall_snoc (seed : Nat) (L : List Cl) (xs : List Sm) (x : Sm) (n : Int) : tall seed L (xs ++ [x]) n = tput seed (tall seed L xs n) x n := by unfold tall; rw [List.foldl_append]; rfl
theorem take_snocN (P : List Nat) {j : Nat} (h : j < P.length) : P.take (j + 1) = P.take j ++ [P.getD j 0] := by
  rw [List.take_succ_eq_append_getElem h]
  simp [List.getD, List.getElem?_eq_getElem h]
theorem fold_snoc (P : List Nat) {j : Nat} (h : j < P.length) (L : List Cl) (x : Sm) (n : Int) : (P.take (j + 1)).foldl (fun L i => tputAt L i x n) L = tputAt ((P.take j).foldl (fun L i => tputAt L i x n) L) (P.getD j 0) x n := by
  rw [take_snocN P h, List.foldl_append]
  rfl
theorem getD_mem {P : List Nat} {j : Nat} (h : j < P.length) : P.getD j 0 ∈ P := by
  simp only [List.getD, List.getElem?_eq_getElem h, Option.getD_some]
  exact List.getElem_mem h
/-- An element of a row of one's own, as an address. -/
theorem cell_at {w : World} {e : TypeId} {g off n cap : Nat} {L : List Cl} (h : SegL w e 65 g off n cap (flatC L)) {i : Nat} (hi : i < L.length) : (Ty.at_ e (L.getD i default).enc).p w (.pointer (some ⟨g, off + i * 65, none⟩)) := by
  obtain ⟨g', off', he, h⟩ := SlP.elem (k := i * 65) h.sl (by rw [flatC_len]; omega)
  simp only [Option.some.injEq, Addr.mk.injEq] at he
  obtain ⟨rfl, rfl, _⟩ := he
  have h := h (i * 65)
  rw [flatC_at _ hi] at h
  exact at_pre _ _ h
theorem segl_far {w : World} {e t : TypeId} {sz g off n cap g2 : Nat} {xs : List Value} {cs : Array Value} (h : SegL w e sz g off n cap xs) (hb : Blk w g2 t cs) (hne : (t == e) = false) : g2 ≠ g := fun hm => by
  subst hm
  obtain ⟨cs', fr, h1⟩ := h.block
  unfold Blk at hb
  rw [hb] at h1
  simp only [Option.some.injEq, Obj.cells.injEq] at h1
  rw [h1.2.1] at hne
  simp at hne
set_option maxRecDepth 100000 in
set_option maxHeartbeats 4000000 in
theorem tof_ty (seed : Nat) (n : Int) (D : List Sm) (hD : D.length ≤ 1000000) (hsd : seed < 18446744073709551616) : FnR3 Tryz.prog 16 (Ty.ex (.int .u64 (seed : Int))) (Ty.ex (.int .i64 n)) (Ty.sums 28 D) (fun w => Ty.tabE w 69 (newS seed n) (ofL seed n D) (newE n)) := by
  refine ⟨fun args w => by kernel_rfl, fun w v u q hv hu hq => ?_⟩
  have hNw := tnew_ty seed n
  refine enter_ty 54 [Ty.ex (.int .u64 (seed : Int)), Ty.ex (.int .i64 n), Ty.ex q] Tryz.func16 rfl (by kernel_rfl) ⟨hv, hu, rfl, trivial⟩ fun a hF => ?_
  have hB := Below.refl w.heap.size w
  let TD := Ty.sums 28 D
  repeat with_reducible refine wp_seq ?_
  refine' reg_all hF ?_ mixed (by kernel_rfl) ?_
  rotate_left
  · repeat (first
        | exact Line.nil
        | (refine' Line.cons rfl (.new rfl rfl (run_alloc_i infoT46) rfl) ?_; rotate_left)
        | ((refine' Line.cons rfl (.run rfl rfl ?_) ?_)
           any_goals exact cAssign rfl rfl
           rotate_left))
  intro a w1 hF hb hN
  have hBs := hB.size
  replace hB := hB.trans (hb.mono hB.size)
  dsimp only [ext, Option.getD] at hF
  repeat with_reducible first | refine wp_seq ?_ | refine nThen ?_
  obtain ⟨z, ⟨g6, rfl, hg6, hb6⟩, hF⟩ := hF.open (s := 6) rfl
  have hg6 : w.heap.size ≤ g6 := hg6
  refine wp_region_lit ?_
  refine' tlOp hF rfl rfl rfl ?_ ?_
  rotate_left
  · exact cMove rfl rfl
  intro a w2 hF hb
  have hBs := hB.size
  replace hB := hB.trans (hb.mono hB.size)
  try (refine wpList_nil ?_)
  replace hb6 := hb6.below hb
  refine' tlOp hF rfl rfl rfl ?_ ?_
  rotate_left
  · exact cMove rfl rfl
  intro a w3 hF hb
  have hBs := hB.size
  replace hB := hB.trans (hb.mono hB.size)
  try (refine wpList_nil ?_)
  replace hb6 := hb6.below hb
  have hw3 := hB.size
  refine' tlOp hF rfl rfl rfl ?_ ?_
  rotate_left
  · exact cCallR2 rfl (.t rfl) (.t rfl) hNw (tabE_olds _ _ _ _)
  intro a w4 hF hb
  have hBs := hB.size
  replace hB := hB.trans (hb.mono hB.size)
  try (refine wpList_nil ?_)
  replace hb6 := hb6.below hb
  refine' tlOp hF rfl rfl rfl ?_ ?_
  rotate_left
  · exact cMove rfl rfl
  intro a w5 hF hb
  have hBs := hB.size
  replace hB := hB.trans (hb.mono hB.size)
  try (refine wpList_nil ?_)
  replace hb6 := hb6.below hb
  refine' tlOp hF rfl rfl rfl ?_ ?_
  rotate_left
  · exact cExtT rfl rfl
  intro a w6 hF hb
  have hBs := hB.size
  replace hB := hB.trans (hb.mono hB.size)
  try (refine wpList_nil ?_)
  replace hb6 := hb6.below hb
  refine' tlOp hF rfl rfl rfl ?_ ?_
  rotate_left
  · exact cExtE rfl rfl
  intro a w7 hF hb
  have hBs := hB.size
  replace hB := hB.trans (hb.mono hB.size)
  try (refine wpList_nil ?_)
  replace hb6 := hb6.below hb
  have hlt6 := hb6.lt
  have hw7 := hB.size
  refine' tlOp hF rfl rfl rfl ?_ ?_
  rotate_left
  · exact cAllocN rfl (run_alloc_i infoT46)
  intro a w8 hF hb
  have hBs := hB.size
  replace hB := hB.trans (hb.mono hB.size)
  try (refine wpList_nil ?_)
  replace hb6 := hb6.below hb
  obtain ⟨z, ⟨g8, rfl, hg8, hb8⟩, hF⟩ := hF.open (s := 8) rfl
  have hg8 : w7.heap.size ≤ g8 := hg8
  obtain ⟨z, ⟨s18, rfl, S18, hs18, hS18⟩, hF⟩ := hF.open (s := 18) rfl
  refine tlStoreV (Δ := [(0, Ty.ex (.int .u64 (seed : Int))), (1, Ty.ex (.int .i64 n)), (2, Ty.ex q), (6, Ty.ex (.pointer (some ⟨g6, 0, none⟩))), (8, Ty.ex (.pointer (some ⟨g8, 0, none⟩))), (19, Ty.ex (newE n))]) hF rfl rfl rfl rfl (hF.getEx (s := 18) rfl) hb8 rfl sizeT46 (sl_one hs18.sl _) (hF.keep [0, 1, 2, 6, 8, 19]) rfl ?_
  intro w9 hF hb8' hkx
  replace hb6 := hb6.keeps hkx (by simp only [List.mem_singleton]; intro h; subst h; omega)
  replace hs18 := hs18.keeps hkx (seg_far hs18 hb8 (by decide))
  replace hB := below_own hB hkx (by intro y hy; simp only [List.mem_singleton] at hy; omega)
  replace hb8 : Blk w9 g8 40 #[.int .u64 (newS seed n : Int), s18] := hb8'
  have hne68 : g6 ≠ g8 := by omega
  clear hb8' hkx hlt6
  refine' tlOp hF rfl rfl rfl ?_ ?_
  rotate_left
  · exact cAssign rfl rfl
  intro a w10 hF hb
  have hBs := hB.size
  replace hB := hB.trans (hb.mono hB.size)
  try (refine wpList_nil ?_)
  repeat with_reducible first | refine wp_seq ?_ | refine nThen ?_
  replace hb6 := hb6.below hb
  replace hb8 := hb8.below hb
  replace hs18 := hs18.below hb
  replace hF := hF.keep [0, 1, 2, 6, 8, 9]
  dsimp only [pick, look] at hF
  by_cases hgn : goodN n = true
  rotate_left
  · have hgn : goodN n = false := by simpa using hgn
    have e1 : newS seed n = 0 := by unfold newS; rw [hgn]; rfl
    have e2 : ofL seed n D = [] := by unfold ofL; rw [hgn]; rfl
    have e3 : newE n = .int .i64 1 := by unfold newE; rw [hgn]; rfl
    rw [e1, e2, e3]
    rw [e3] at hF
    refine' reg_all hF ?_ mixed (by kernel_rfl) ?_
    rotate_left
    · repeat (first | exact Line.nil | ((refine' Line.cons rfl (.run rfl rfl ?_) ?_); (any_goals (first | exact cMove rfl rfl | exact OpOk.b (c := true) (cNeq rfl rfl rfl) rfl)); rotate_left))
    intro a w11 hF hb hN
    have hBs := hB.size
    replace hB := hB.trans (hb.mono hB.size)
    dsimp only [ext, Option.getD] at hF
    repeat with_reducible refine nThen ?_
    replace hb6 := hb6.below hb
    refine cond_t hF rfl ?_
    repeat with_reducible refine wp_seq ?_
    refine wp_region_lit ?_
    refine' tlOp hF rfl rfl rfl ?_ ?_
    rotate_left
    · exact cBuildE rfl (fun w => buildT046 w)
    intro a w12 hF hb
    have hBs := hB.size
    replace hB := hB.trans (hb.mono hB.size)
    try (refine wpList_nil ?_)
    replace hb6 := hb6.below hb
    refine' tlOp hF rfl rfl rfl ?_ ?_
    rotate_left
    · exact cMove rfl rfl
    intro a w12 hF hb
    have hBs := hB.size
    replace hB := hB.trans (hb.mono hB.size)
    try (refine wpList_nil ?_)
    replace hb6 := hb6.below hb
    refine tlStoreV (Δ := [(6, Ty.ex (.pointer (some ⟨g6, 0, none⟩))), (23, Ty.ex (.int .i64 1))]) hF rfl rfl rfl rfl (hF.getEx (s := 22) rfl) hb6 rfl sizeT46 (tabCells 0 _ _ _) (hF.keep [6, 23]) rfl ?_
    intro w13 hF hb6 hkx
    replace hB := below_own hB hkx (by intro y hy; simp only [List.mem_singleton] at hy; omega)
    refine' tlOp hF rfl rfl rfl ?_ ?_
    rotate_left
    · exact cAssign rfl rfl
    intro a w14 hF hb
    have hBs := hB.size
    replace hB := hB.trans (hb.mono hB.size)
    try (refine wpList_nil ?_)
    repeat with_reducible first | refine nThen ?_ | refine wp_ret ?_ | refine rThen ?_
    refine retCell2 hF rfl rfl rfl (hb6.below hb) Tryz.underlying40 rfl sizeT46 ?_
    exact ⟨_, rfl, ⟨_, rfl, _, rfl, [], Seg.nil _ _ _, by simp⟩, hB⟩
  obtain ⟨N, rfl, hN1, hN2⟩ := goodN_rng hgn
  have e1 : newS seed (N : Int) = seed := by unfold newS; rw [hgn]; rfl
  have e2 : ofL seed (N : Int) D = tall seed (tzero N) (setL D) 1 := by unfold ofL; rw [hgn, Int.toNat_natCast]; rfl
  have e3 : newE (N : Int) = .int .i64 0 := by unfold newE; rw [hgn]; rfl
  have e4 : newL (N : Int) = tzero N := by unfold newL; rw [hgn, Int.toNat_natCast]; rfl
  rw [e1, e2, e3]
  rw [e1] at hb8
  rw [e3] at hF
  rw [e4, tzero_len] at hs18
  obtain ⟨g, off, cap, es, rfl, hsl⟩ : ∃ g off cap, s18 = .slice (some ⟨g, off, none⟩) N cap ∧ S18 = [g] ∧ SegL w10 69 65 g off N cap (flatC (tzero N)) := by
    rcases hs18.cases with ⟨_, h0, _⟩ | h
    · omega
    · exact h
  have hgw : w.heap.size ≤ g := Nat.le_trans hw3 (hS18 g (by simp))
  rw [es] at hb8
  clear hs18 hS18 e1 e2 e3 e4 es
  refine' reg_all hF ?_ mixed (by kernel_rfl) ?_
  rotate_left
  · repeat (first | exact Line.nil | ((refine' Line.cons rfl (.run rfl rfl ?_) ?_); (any_goals (first | exact cMove rfl rfl | exact OpOk.b (c := false) (cNeq rfl rfl rfl) rfl)); rotate_left))
  intro a w11 hF hb hN
  have hBs := hB.size
  replace hB := hB.trans (hb.mono hB.size)
  dsimp only [ext, Option.getD] at hF
  repeat with_reducible refine nThen ?_
  replace hb6 := hb6.below hb
  replace hb8 := hb8.below hb
  replace hsl := hsl.below hb
  refine cond_f hF rfl ?_
  repeat with_reducible first | refine wp_seq ?_ | refine nThen ?_ | refine wp_skip ?_
  have hq11 := TD.below hq hB
  have hw11 := hB.size
  refine' reg_all hF ?_ mixed (by kernel_rfl) ?_
  rotate_left
  · repeat (first | exact Line.nil | ((refine' Line.cons rfl (.run rfl rfl ?_) ?_); (any_goals (first | exact cMove rfl rfl | exact cCallS1 rfl (.l rfl hq11) (of_ty D hD) | exact cLenH rfl (.t rfl) (Ty.seg_isSl _ _ _ _ _) Tryz.underlying30)); rotate_left))
  intro a w12 hF hb hN
  have hBs := hB.size
  replace hB := hB.trans (hb.mono hB.size)
  dsimp only [ext, Option.getD] at hF
  repeat with_reducible first | refine nThen ?_ | refine wp_block ?_
  replace hb6 := hb6.below hb
  replace hb8 := hb8.below hb
  replace hsl := hsl.below hb
  have hXl := setL_len D
  generalize setL D = X at *
  obtain ⟨v25, ⟨S25, hs25, hS25⟩, hF⟩ := hF.open (s := 25) rfl
  refine loop_ty (fun m a wr => ∃ k : Nat, k + m = X.length ∧ Fr 54 [(0, Ty.ex (.int .u64 (seed : Int))), (1, Ty.ex (.int .i64 (N : Int))), (6, Ty.ex (.pointer (some ⟨g6, 0, none⟩))), (8, Ty.ex (.pointer (some ⟨g8, 0, none⟩))), (25, Ty.ex v25), (26, Ty.ex (.int .i64 (X.length : Int))), (27, Ty.ex (.int .i64 (k : Int)))] a wr ∧ Below w.heap.size w wr ∧ Blk wr g6 40 zeroT ∧ Blk wr g8 40 #[.int .u64 (seed : Int), .slice (some ⟨g, off, none⟩) N cap] ∧ SegL wr 69 65 g off N cap (flatC (tall seed (tzero N) (X.take k) 1)) ∧ Seg wr 28 32 v25 X.length (flat X) S25) X.length ?_ ?_
  · exact ⟨0, by omega, hF.keep [0, 1, 6, 8, 25, 26, 27], hB, hb6, hb8, hsl, hs25⟩
  clear hF hB hb6 hb8 hsl hs25
  rintro m a wr ⟨k, hk, hF, hB, hb6, hb8, hsl, hs25⟩
  repeat with_reducible refine wp_seq ?_
  refine' reg_all hF ?_ mixed (by kernel_rfl) ?_
  rotate_left
  · repeat (first | exact Line.nil | ((refine' Line.cons rfl (.run rfl rfl ?_) ?_); (any_goals exact cLss rfl rfl rfl); rotate_left))
  intro a w13 hF hb hN
  have hBs := hB.size
  replace hB := hB.trans (hb.mono hB.size)
  dsimp only [ext, Option.getD] at hF
  repeat with_reducible first | refine wp_seq ?_ | refine nThen ?_
  replace hb6 := hb6.below hb
  replace hb8 := hb8.below hb
  replace hsl := hsl.below hb
  replace hs25 := hs25.below hb
  refine cond_ty hF rfl (fun hlt => ?_) (fun hge => ?_)
  rotate_left
  · have hge : ¬ k < X.length := by have := of_decide_eq_false hge; omega
    obtain rfl : k = X.length := by omega
    rw [List.take_length] at hsl
    have h8 : (Ty.at_ 40 [.int .u64 (seed : Int), .slice (some ⟨g, off, none⟩) N cap]).p w13 (.pointer (some ⟨g8, 0, none⟩)) := blk_at hb8
    have hn6 := segl_far hsl hb6 (by decide)
    repeat with_reducible first | refine wp_seq ?_ | refine nThen ?_ | refine wp_exit ?_ | refine xThen ?_ | refine xHere ?_
    refine wp_region_lit ?_
    refine' tlOp hF rfl rfl rfl ?_ ?_
    rotate_left
    · exact cLoadT46 rfl (.l rfl h8)
    intro a w14 hF hb
    have hBs := hB.size
    replace hB := hB.trans (hb.mono hB.size)
    try (refine wpList_nil ?_)
    replace hb6 := hb6.below hb
    replace hsl := hsl.below hb
    refine tlStoreV (Δ := [(6, Ty.ex (.pointer (some ⟨g6, 0, none⟩)))]) hF rfl rfl rfl rfl (hF.getEx (s := 53) rfl) hb6 rfl sizeT46 (tabCells seed _ _ _) (hF.keep [6]) rfl ?_
    intro w15 hF hb6 hkx
    replace hB := below_own hB hkx (by intro y hy; simp only [List.mem_singleton] at hy; omega)
    replace hsl := hsl.keeps hkx (by simpa using Ne.symm hn6)
    refine' tlOp hF rfl rfl rfl ?_ ?_
    rotate_left
    · exact cAssign rfl rfl
    intro a w16 hF hb
    have hBs := hB.size
    replace hB := hB.trans (hb.mono hB.size)
    try (refine wpList_nil ?_)
    repeat with_reducible first | refine nThen ?_ | refine wp_ret ?_
    refine retCell2 hF rfl rfl rfl (hb6.below hb) Tryz.underlying40 rfl sizeT46 ?_
    refine ⟨_, rfl, ⟨_, rfl, _, rfl, [g], ?_, fun y hy => ?_⟩, hB⟩
    · rw [tall_len, tzero_len]
      exact (hsl.below hb).seg
    · simp only [List.mem_singleton] at hy
      omega
  have hlt : k < X.length := by have := of_decide_eq_true hlt; omega
  have htk : X.take (k + 1) = X.take k ++ [X.getD k default] := take_snoc' X hlt
  have hnx : tall seed (tzero N) (X.take (k + 1)) 1 = tput seed (tall seed (tzero N) (X.take k) 1) (X.getD k default) 1 := by rw [htk, tall_snoc]
  have hMl : (tall seed (tzero N) (X.take k) 1).length = N := by rw [tall_len, tzero_len]
  obtain ⟨M, hM⟩ : ∃ M, M = tall seed (tzero N) (X.take k) 1 := ⟨_, rfl⟩
  rw [← hM] at hsl hnx hMl
  obtain ⟨x, hx⟩ : ∃ x, x = X.getD k default := ⟨_, rfl⟩
  rw [← hx] at hnx
  have hsl25 := hs25.sl
  have hlt25 := hs25.lt
  have hw13 := hB.size
  repeat with_reducible first | refine wp_seq ?_ | refine nThen ?_ | refine wp_skip ?_ | refine wp_block ?_
  refine' region_ty 3 mixed (by kernel_rfl) hF ?_ ?_
  rotate_left
  · simp only [List.take_succ_cons, List.take_zero]
    repeat (first
        | exact Line.nil
        | (refine' Line.cons rfl (.new rfl rfl (run_alloc_i infoS) rfl) ?_; rotate_left)
        | ((refine' Line.cons rfl (.run rfl rfl ?_) ?_)
           any_goals (first | exact cIndexSum (k := k) rfl (.l rfl hsl25) rfl Tryz.underlying30 sizeS hlt | exact cLoadSum rfl (.t rfl) Tryz.underlying28 sizeS)
           rotate_left))
  intro a w14 hF hb hN
  have hBs := hB.size
  replace hB := hB.trans (hb.mono hB.size)
  simp only [List.take_succ_cons, List.take_zero, List.drop_succ_cons, List.drop_zero] at hF hN ⊢
  dsimp only [ext, Option.getD] at hF
  replace hb6 := hb6.below hb
  replace hb8 := hb8.below hb
  replace hsl := hsl.below hb
  replace hs25 := hs25.below hb
  obtain ⟨z, ⟨g11, rfl, hg11, hb11⟩, hF⟩ := hF.open (s := 11) rfl
  have hg11 : w13.heap.size ≤ g11 := hg11
  have hn6 : g6 ≠ g11 := fun h => by subst h; exact absurd (hb6.ne hb11 (by decide)) (by simp)
  have hn8 : g8 ≠ g11 := fun h => by subst h; exact absurd (hb8.ne hb11 (by decide)) (by simp)
  have hng := segl_far hsl hb11 (by decide)
  refine tlStoreV (Δ := [(0, Ty.ex (.int .u64 (seed : Int))), (1, Ty.ex (.int .i64 (N : Int))), (6, Ty.ex (.pointer (some ⟨g6, 0, none⟩))), (8, Ty.ex (.pointer (some ⟨g8, 0, none⟩))), (11, Ty.ex (.pointer (some ⟨g11, 0, none⟩))), (25, Ty.ex v25), (26, Ty.ex (.int .i64 (X.length : Int))), (27, Ty.ex (.int .i64 (k : Int)))]) hF rfl rfl rfl rfl (hF.getEx (s := 30) rfl) hb11 (sumSz _) (by show _ = some (u8s _).size; rw [Sm.size]; exact sizeS) (u8s_one _) (hF.keep [0, 1, 6, 8, 11, 25, 26, 27]) rfl ?_
  intro w15 hF hb11' hkx
  refine wpList_nil ?_
  replace hB := below_own hB hkx (by intro y hy; simp only [List.mem_singleton] at hy; omega)
  replace hb6 := hb6.keeps hkx (by simpa using hn6)
  replace hb8 := hb8.keeps hkx (by simpa using hn8)
  replace hsl := hsl.keeps hkx (by simpa using Ne.symm hng)
  replace hs25 := hs25.keeps hkx (by intro y hy hm; simp only [List.mem_singleton] at hm; have := hlt25 y hy; omega)
  have h11 : (Ty.at_ 28 x.enc).p w15 (.pointer (some ⟨g11, 0, none⟩)) := by
    have h := blk_at hb11'
    rw [← hx] at h
    rwa [show (Value.agg (u8s x.l)).cells.toList = x.enc from u8s_list _] at h
  clear hb11 hb11' hkx
  have hPp := places_ty seed (N : Int) x hsd
  have hPd : ∀ j, j < (placesN seed (N : Int) x).length → (placesN seed (N : Int) x).getD j 0 < N := fun j hj => places_lt seed N x _ (getD_mem hj)
  have hput : tput seed M x 1 = (placesN seed (N : Int) x).foldl (fun L i => tputAt L i x 1) M := by unfold tput; rw [hMl]
  have hPl3 := placesN_len3 seed (N : Int) x
  generalize placesN seed (N : Int) x = PL at *
  repeat with_reducible first | refine wp_seq ?_ | refine nThen ?_
  refine' reg_all hF ?_ mixed (by kernel_rfl) ?_
  rotate_left
  · repeat (first | exact Line.nil | ((refine' Line.cons rfl (.run rfl rfl ?_) ?_); (any_goals (first | exact cMove rfl rfl | exact cLoadSum rfl (.l rfl h11) Tryz.underlying28 sizeS | exact cCall3 rfl rfl rfl rfl hPp | exact cLen rfl rfl (Ty.sl_isSl _ _ _) Tryz.underlying33)); rotate_left))
  intro a w16 hF hb hN
  have hBs := hB.size
  replace hB := hB.trans (hb.mono hB.size)
  dsimp only [ext, Option.getD] at hF
  repeat with_reducible first | refine nThen ?_ | refine wp_block ?_
  replace hb6 := hb6.below hb
  replace hb8 := hb8.below hb
  replace hsl := hsl.below hb
  replace hs25 := hs25.below hb
  replace h11 := (Ty.at_ 28 x.enc).below h11 hb
  obtain ⟨v34, hv34, hF⟩ := hF.open (s := 34) rfl
  refine wp_mono (Q := fun e a wr => e = .exit 2 ∧ Fr 54 [(0, Ty.ex (.int .u64 (seed : Int))), (1, Ty.ex (.int .i64 (N : Int))), (6, Ty.ex (.pointer (some ⟨g6, 0, none⟩))), (8, Ty.ex (.pointer (some ⟨g8, 0, none⟩))), (25, Ty.ex v25), (26, Ty.ex (.int .i64 (X.length : Int))), (27, Ty.ex (.int .i64 (k : Int)))] a wr ∧ Below w.heap.size w wr ∧ Blk wr g6 40 zeroT ∧ Blk wr g8 40 #[.int .u64 (seed : Int), .slice (some ⟨g, off, none⟩) N cap] ∧ SegL wr 69 65 g off N cap (flatC (tput seed M x 1)) ∧ Seg wr 28 32 v25 X.length (flat X) S25) ?_ ?_
  · refine loop_ty (fun m a wr => ∃ j : Nat, j + m = PL.length ∧ Fr 54 [(0, Ty.ex (.int .u64 (seed : Int))), (1, Ty.ex (.int .i64 (N : Int))), (6, Ty.ex (.pointer (some ⟨g6, 0, none⟩))), (8, Ty.ex (.pointer (some ⟨g8, 0, none⟩))), (11, Ty.ex (.pointer (some ⟨g11, 0, none⟩))), (25, Ty.ex v25), (26, Ty.ex (.int .i64 (X.length : Int))), (27, Ty.ex (.int .i64 (k : Int))), (34, Ty.ex v34), (35, Ty.ex (.int .i64 (PL.length : Int))), (36, Ty.ex (.int .i64 (j : Int)))] a wr ∧ Below w.heap.size w wr ∧ Blk wr g6 40 zeroT ∧ Blk wr g8 40 #[.int .u64 (seed : Int), .slice (some ⟨g, off, none⟩) N cap] ∧ SegL wr 69 65 g off N cap (flatC ((PL.take j).foldl (fun L i => tputAt L i x 1) M)) ∧ Seg wr 28 32 v25 X.length (flat X) S25 ∧ (Ty.at_ 28 x.enc).p wr (.pointer (some ⟨g11, 0, none⟩)) ∧ (Ty.sl 3 PL.length (PL.map ivn)).p wr v34) PL.length ?_ ?_
    · exact ⟨0, by omega, hF.keep [0, 1, 6, 8, 11, 25, 26, 27, 34, 35, 36], hB, hb6, hb8, hsl, hs25, h11, hv34⟩
    clear hF hB hb6 hb8 hsl hs25 h11 hv34 hsl25
    rintro m a wr ⟨j, hj, hF, hB, hb6, hb8, hsl, hs25, h11, hv34⟩
    repeat with_reducible refine wp_seq ?_
    refine' reg_all hF ?_ mixed (by kernel_rfl) ?_
    rotate_left
    · repeat (first | exact Line.nil | ((refine' Line.cons rfl (.run rfl rfl ?_) ?_); (any_goals exact cLss rfl rfl rfl); rotate_left))
    intro a w17 hF hb hN
    have hBs := hB.size
    replace hB := hB.trans (hb.mono hB.size)
    dsimp only [ext, Option.getD] at hF
    repeat with_reducible first | refine wp_seq ?_ | refine nThen ?_
    replace hb6 := hb6.below hb
    replace hb8 := hb8.below hb
    replace hsl := hsl.below hb
    replace hs25 := hs25.below hb
    replace h11 := (Ty.at_ 28 x.enc).below h11 hb
    replace hv34 := (Ty.sl 3 PL.length (PL.map ivn)).below hv34 hb
    refine cond_ty hF rfl (fun hlt2 => ?_) (fun hge2 => ?_)
    rotate_left
    · have hge2 : ¬ j < PL.length := by have := of_decide_eq_false hge2; omega
      obtain rfl : j = PL.length := by omega
      rw [List.take_length, ← hput] at hsl
      repeat with_reducible first | refine wp_exit ?_ | refine xThen ?_
      exact ⟨rfl, hF.keep [0, 1, 6, 8, 25, 26, 27], hB, hb6, hb8, hsl, hs25⟩
    have hlt2 : j < PL.length := by have := of_decide_eq_true hlt2; omega
    have hi := hPd j hlt2
    have hfs := fold_snoc PL hlt2 M x 1
    have hd1 := ivn_drop hlt2
    have hFl : ((PL.take j).foldl (fun L i => tputAt L i x 1) M).length = N := by rw [foldAt_len, hMl]
    generalize (PL.take j).foldl (fun L i => tputAt L i x 1) M = R at *
    generalize PL.getD j 0 = i at *
    have hcell := cell_at hsl (i := i) (by omega)
    have h8 : (Ty.at_ 40 [.int .u64 (seed : Int), .slice (some ⟨g, off, none⟩) N cap]).p w17 (.pointer (some ⟨g8, 0, none⟩)) := blk_at hb8
    repeat with_reducible first | refine wp_seq ?_ | refine nThen ?_ | refine wp_skip ?_ | refine wp_block ?_
    refine' reg_all hF ?_ mixed (by kernel_rfl) ?_
    rotate_left
    · repeat (first | exact Line.nil | ((refine' Line.cons rfl (.run rfl rfl ?_) ?_); (any_goals (first | exact cAssign rfl rfl | exact cIndexS (k := j) (sz := 1) rfl (.l rfl hv34) rfl Tryz.underlying33 sizeI hlt2 (by rw [List.length_map]; omega) | exact cLoad1 (u := ivn i) rfl (Has.c (.t rfl) (fun W v h => by rw [Nat.mul_one, hd1] at h; exact h)) (pts_at _ _) Tryz.underlying3 rfl)); rotate_left))
    intro a w18 hF hb hN
    have hBs := hB.size
    replace hB := hB.trans (hb.mono hB.size)
    dsimp only [ext, Option.getD] at hF
    repeat with_reducible refine nThen ?_
    replace hb6 := hb6.below hb
    replace hb8 := hb8.below hb
    replace hsl := hsl.below hb
    replace hs25 := hs25.below hb
    replace h11 := (Ty.at_ 28 x.enc).below h11 hb
    replace hv34 := (Ty.sl 3 PL.length (PL.map ivn)).below hv34 hb
    replace hcell := (Ty.at_ 69 _).below hcell hb
    replace h8 := (Ty.at_ 40 _).below h8 hb
    refine' region_ty 11 mixed (by kernel_rfl) hF ?_ ?_
    rotate_left
    · simp only [List.take_succ_cons, List.take_zero]
      repeat (first | exact Line.nil | ((refine' Line.cons rfl (.run rfl rfl ?_) ?_); (any_goals (first | exact cMove rfl rfl | exact cFldL46 rfl (.l rfl h8) | exact cRowOf46 rfl (.t rfl) | exact cIndexEx (k := i) (sz := 65) rfl rfl rfl Tryz.underlying38 info34 hi | exact cLoadCl34 rfl (.l rfl hcell) | exact cLoadSum rfl (.l rfl h11) Tryz.underlying28 sizeS | exact cCall2 rfl rfl rfl (put_ty _ _))); rotate_left))
    intro a w19 hF hb hN
    have hBs := hB.size
    replace hB := hB.trans (hb.mono hB.size)
    simp only [List.take_succ_cons, List.take_zero, List.drop_succ_cons, List.drop_zero] at hF hN ⊢
    dsimp only [ext, Option.getD] at hF
    replace hb6 := hb6.below hb
    replace hb8 := hb8.below hb
    replace hsl := hsl.below hb
    replace hs25 := hs25.below hb
    replace h11 := (Ty.at_ 28 x.enc).below h11 hb
    replace hv34 := (Ty.sl 3 PL.length (PL.map ivn)).below hv34 hb
    have hn6 := segl_far hsl hb6 (by decide)
    have hn8 := segl_far hsl hb8 (by decide)
    obtain ⟨csg, frg, hbg⟩ := hsl.block
    have hbl : ∃ cs, Blk w19 g 69 cs := by
      obtain ⟨_, _, _, cs, h, _⟩ := hsl
      exact ⟨cs, h⟩
    obtain ⟨csb, hbl⟩ := hbl
    refine tlStoreAt (Δ := [(0, Ty.ex (.int .u64 (seed : Int))), (1, Ty.ex (.int .i64 (N : Int))), (6, Ty.ex (.pointer (some ⟨g6, 0, none⟩))), (8, Ty.ex (.pointer (some ⟨g8, 0, none⟩))), (11, Ty.ex (.pointer (some ⟨g11, 0, none⟩))), (25, Ty.ex v25), (26, Ty.ex (.int .i64 (X.length : Int))), (27, Ty.ex (.int .i64 (k : Int))), (34, Ty.ex v34), (35, Ty.ex (.int .i64 (PL.length : Int))), (36, Ty.ex (.int .i64 (j : Int)))]) (k := i * 65) hF rfl rfl rfl rfl rfl hsl (by rw [Cl.size]; omega) (by rw [Cl.size]; exact info34) (Cl.one _) (hF.keep [0, 1, 6, 8, 11, 25, 26, 27, 34, 35, 36]) rfl ?_
    intro w20 hF hsl hk20
    refine wpList_nil ?_
    replace hB := below_own hB hk20 (by intro y hy; simp only [List.mem_singleton] at hy; omega)
    replace hb6 := hb6.keeps hk20 (by simpa using hn6)
    replace hb8 := hb8.keeps hk20 (by simpa using hn8)
    replace hs25 := hs25.keeps hk20 (seg_far hs25 hbl (by decide))
    replace h11 := (Ty.at_ 28 x.enc).far h11 hk20 hbl rfl
    replace hv34 := (Ty.sl 3 PL.length (PL.map ivn)).far hv34 hk20 hbl rfl
    rw [show ((R.getD i default).put x 1).a.toList = ((R.getD i default).put x 1).enc from rfl, over_flatC _ _ (by omega)] at hsl
    rw [show R.set i ((R.getD i default).put x 1) = tputAt R i x 1 from rfl, ← hfs] at hsl
    repeat with_reducible first | refine nThen ?_ | refine nBlk ?_
    refine' reg_all hF ?_ mixed (by kernel_rfl) ?_
    rotate_left
    · repeat (first | exact Line.nil | ((refine' Line.cons rfl (.run rfl rfl ?_) ?_); (any_goals (first | exact cMove rfl rfl | exact cAdd (r := ((j + 1 : Nat) : Int)) rfl rfl rfl (by omega))); rotate_left))
    intro a w21 hF hb hN
    have hBs := hB.size
    replace hB := hB.trans (hb.mono hB.size)
    dsimp only [ext, Option.getD] at hF
    repeat with_reducible refine nThen ?_
    exact ⟨m - 1, by omega, j + 1, by omega, hF.keep [0, 1, 6, 8, 11, 25, 26, 27, 34, 35, 36], hB, hb6.below hb, hb8.below hb, hsl.below hb, hs25.below hb, (Ty.at_ 28 x.enc).below h11 hb, (Ty.sl 3 PL.length (PL.map ivn)).below hv34 hb⟩
  clear hF hB hb6 hb8 hsl hs25 h11 hv34 hsl25
  rintro e a wr ⟨rfl, hF, hB, hb6, hb8, hsl, hs25⟩
  repeat with_reducible first | refine nThen ?_ | refine nBlk ?_ | refine xHere ?_
  refine' reg_all hF ?_ mixed (by kernel_rfl) ?_
  rotate_left
  · repeat (first | exact Line.nil | ((refine' Line.cons rfl (.run rfl rfl ?_) ?_); (any_goals (first | exact cMove rfl rfl | exact cAdd (r := ((k + 1 : Nat) : Int)) rfl rfl rfl (by omega))); rotate_left))
  intro a w17 hF hb hN
  have hBs := hB.size
  replace hB := hB.trans (hb.mono hB.size)
  dsimp only [ext, Option.getD] at hF
  repeat with_reducible refine nThen ?_
  refine ⟨m - 1, by omega, k + 1, by omega, hF.keep [0, 1, 6, 8, 25, 26, 27], hB, hb6.below hb, hb8.below hb, ?_, hs25.below hb⟩
  rw [hnx]
  exact hsl.below hb
end Go.Proofs.YtmefpnklgfhggaaGreatDoor

/- The laws' helpers of layers 15 to 18 by types: cellOf, tableOf, sameT, few. -/
namespace Go.Proofs.YtmefpnklgfhggaaGreatDoor
open Go.RowKit

/-- A value of one cell is stored into a field of a variable of the call's own. -/
theorem tlStoreF {P : Program} {ops : Array Oper} {Q : Exit → Act → World → Prop} {rest : List Oper} {o : Oper} {a : Act} {w : World} {N : Nat} {Γ : Ctx} {ty t : TypeId} {p : Nat} {y : Operand} {g k : Nat} {cs : Array Value} {v : Value} {Δ : Ctx} (hF : Fr N Γ a w) (hg : o.guard = none) (hd : o.dst = none) (ho : o.op = .store ty (.tmp p) y) (hp : look Γ p = some (Ty.ex (.pointer (some ⟨g, k, none⟩)))) (hy : a.eval y = v)
    (hB : Blk w g t cs) (hk : k + v.cells.size ≤ cs.size) (hi : (P.info? ty).map (·.size) = some v.cells.size) (h1 : v.cells.all (·.oneCell') = true) (hΔ : Fr N Δ a w) (hfree : Δ.free t = true)
    (hq : ∀ w', Fr N Δ a w' → Blk w' g t (splice cs k v.cells.toList) → Keeps [g] w w' → wpList P ops Q rest a w') : wpList P ops Q (o :: rest) a w := by
  refine wpList_plain hg fun K hK => ?_
  unfold Oper.wp execOp
  simp only [ho, hF.getEx hp, hy, Instr.storeAt, Instr.sureAddr, Sem.run_bind, Sem.run_pure, Result.andThen_ok, storeVar_cells ty _ v, run_storeVar_mid w g k ty v.cells (hB.there hk) hi h1]
  have h2 := hB.setCells v.cells.toList k
  have h3 : Keeps [g] w (w.setCells g k v.cells.toList) := Keeps.setCells (.inl (by simp)) _ _ (Keeps.refl _ _)
  refine hK _ _ ?_
  rw [hd]
  refine hq _ (hΔ.free h3 (fun b hb _ => ?_) hfree) h2 h3
  simp only [List.mem_singleton] at hb
  subst hb
  exact ⟨cs, (0, 0), hB⟩
theorem sl_cells {v : Value} (h : ∃ A l c, v = .slice A l c) : v.cells = #[v] := by
  obtain ⟨A, l, c, rfl⟩ := h
  rfl
theorem sl_one1 {v : Value} (h : ∃ A l c, v = .slice A l c) : v.cells.all (·.oneCell') = true := by
  obtain ⟨A, l, c, rfl⟩ := h
  simp [Value.cells, Value.oneCell']
theorem seg_isA {w : World} {e : TypeId} {sz n : Nat} {v : Value} {xs : List Value} {S : List Nat} (h : Seg w e sz v n xs S) : ∃ A l c, v = .slice A l c := by
  obtain ⟨A, c, h1, _⟩ := h.form
  exact ⟨A, n, c, h1⟩
end Go.Proofs.YtmefpnklgfhggaaGreatDoor

/- Layer 14 by types: awake. -/
namespace Go.Proofs.YtmefpnklgfhggaaGreatDoor
open Go.RowKit

section
variable {P : Program} {ops : Array Oper} {Q : Exit → Act → World → Prop} {rest : List Oper} {o o2 : Oper} {a : Act} {w : World} {N : Nat} {Γ : Ctx}
/-- A line whose guard is met. -/
theorem tlOpG {j s d : Nat} {V : Ty} (hF : Fr N Γ a w) (hg : o.guard = some (j, true)) (hj : slotOf ops j = some s) (hs : look Γ s = some (Ty.ex (.bool true))) (hd : o.dst = some d) (hN : decide (d < N) = true) (h : OpOk P w Γ o V) (hk : ∀ a' w', Fr N ((d, V) :: Γ) a' w' → Below w.heap.size w w' → wpList P ops Q rest a' w') : wpList P ops Q (o :: rest) a w := by
  obtain ⟨v, h1, h2⟩ := hF.val s _ hs
  have h2 : v = .bool true := h2
  subst h2
  have hw : Region.wanted o (yielded ops a.tmps) = true := by simp [Region.wanted, hg, yielded_of hj h1]
  refine wpList_step fun K hK => ?_
  rw [if_pos hw]
  exact h a w K Q (Below.refl _ _) (fun s τ _ hs => hF.val s τ hs) fun v w' hv hb => by
    rw [hd]
    exact hK _ _ (hk _ _ (hF.put (of_decide_eq_true hN) hb hv) hb)
end
end Go.Proofs.YtmefpnklgfhggaaGreatDoor

/- Layer 14 by types: the walk of PlaceParts. -/
namespace Go.Proofs.YtmefpnklgfhggaaGreatDoor
open Go.RowKit

end Go.Proofs.YtmefpnklgfhggaaGreatDoor

/- Layer 14 by types: the document's Places. -/
namespace Go.Proofs.YtmefpnklgfhggaaGreatDoor
open Go.RowKit

end Go.Proofs.YtmefpnklgfhggaaGreatDoor

/- Layer 15 by types: the document's Minus, Put. -/
namespace Go.Proofs.YtmefpnklgfhggaaGreatDoor
open Go.RowKit

end Go.Proofs.YtmefpnklgfhggaaGreatDoor

/- Layer 15 by types: the document's Minus. -/
namespace Go.Proofs.YtmefpnklgfhggaaGreatDoor
open Go.RowKit

end Go.Proofs.YtmefpnklgfhggaaGreatDoor

/- Layer 15 by types: change, Put, Take, Count; the laws' few. -/
namespace Go.Proofs.YtmefpnklgfhggaaGreatDoor
open Go.RowKit

/-! ### few -/
def ivz (z : Int) : Value := .int .i64 z
def fewB (z : Int) : List Nat := [(z % 256).toNat, (z / 256 % 256).toNat]
theorem fewB_lt (z : Int) : ∀ x ∈ fewB z, x < 256 := by
  intro x hx
  simp only [fewB, List.mem_cons, List.not_mem_nil, or_false] at hx
  rcases hx with rfl | rfl <;> omega
def fewS (z : Int) : Sm := shaS (fewB z)
def fewL (l : List Int) : List Sm := setL (l.map fewS)
theorem fewL_len (l : List Int) : (fewL l).length ≤ l.length := by
  have := setL_len (l.map fewS)
  rwa [List.length_map] at this
theorem u8_wrap (z : Int) : IntKind.u8.wrap z = (((z % 256).toNat : Nat) : Int) := by rw [IntKind.wrap_u8']; omega
theorem ivz_drop {l : List Int} {k : Nat} (h : k < l.length) : (l.map ivz).drop k = ivz (l.getD k 0) :: (l.map ivz).drop (k + 1) := by
  have h1 : k < (l.map ivz).length := by rw [List.length_map]; exact h
  rw [List.drop_eq_getElem_cons h1]
  congr 1
  rw [List.getElem_map]
  simp [List.getD, List.getElem?_eq_getElem h]
theorem shr8z (z : Int) : z.fdiv (2 ^ (8 : Int).toNat) = z / 256 := by
  rw [show (2 : Int) ^ (8 : Int).toNat = 256 by decide, Int.fdiv_eq_ediv_of_nonneg _ (by decide)]
theorem n8i : (0 : Int) ≤ 8 ∧ (8 : Int).toNat ≤ IntKind.i64.bits := by decide
theorem take_snocS (l : List Int) {k : Nat} (h : k < l.length) : (l.map fewS).take (k + 1) = (l.map fewS).take k ++ [fewS (l.getD k 0)] := by
  rw [List.take_succ_eq_append_getElem (by rw [List.length_map]; exact h), List.getElem_map]
  simp [List.getD, List.getElem?_eq_getElem h]
set_option maxRecDepth 100000 in
set_option maxHeartbeats 2000000 in
theorem few18_ty (l : List Int) (τ : Ty) (hτ : Reads τ l.length (l.map ivz)) (hl : l.length ≤ 100000) : FnSeg1 Tryz.prog 10 τ 28 32 (fewL l).length (flat (fewL l)) := by
  refine ⟨fun args w => by kernel_rfl, fun w v hv0 => ?_⟩
  have hv : (Ty.rd l.length (l.map ivz)).p w v := hτ w v hv0
  have hof := of_ty (l.map fewS) (by rw [List.length_map]; omega)
  have eL : setL (l.map fewS) = fewL l := rfl
  rw [eL] at hof
  generalize fewL l = X at *
  let TV := Ty.rd l.length (l.map ivz)
  refine enter_ty 30 [Ty.ex v] Tryz.func10 rfl (by kernel_rfl) ⟨rfl, trivial⟩ fun a hF => ?_
  have hB := Below.refl w.heap.size w
  repeat with_reducible first | refine wp_seq ?_ | refine nThen ?_ | refine nBlk ?_ | refine wp_skip ?_ | refine wp_block ?_ | refine wp_exit ?_ | refine xThen ?_ | refine xHere ?_ | refine wp_ret ?_
  refine' reg_all hF ?_ mixed (by kernel_rfl) ?_
  rotate_left
  · repeat (first
        | exact Line.nil
        | ((refine' Line.cons rfl (.run rfl rfl ?_) ?_)
           any_goals (first | exact cMove rfl rfl | exact cAssign rfl rfl | exact cLss rfl rfl rfl)
           rotate_left))
  intro a w1 hF hb hN
  have hBs := hB.size
  replace hB := hB.trans (hb.mono hB.size)
  dsimp only [ext, Option.getD] at hF
  repeat with_reducible first | refine wp_seq ?_ | refine nThen ?_ | refine nBlk ?_ | refine wp_skip ?_ | refine wp_block ?_ | refine wp_exit ?_ | refine xThen ?_ | refine xHere ?_ | refine wp_ret ?_
  refine' reg_all hF ?_ mixed (by kernel_rfl) ?_
  rotate_left
  · repeat (first
        | exact Line.nil
        | ((refine' Line.cons rfl (.run rfl rfl ?_) ?_)
           any_goals (first | exact cMove rfl rfl | exact cAssign rfl rfl | exact cLss rfl rfl rfl)
           rotate_left))
  intro a w2 hF hb hN
  have hBs := hB.size
  replace hB := hB.trans (hb.mono hB.size)
  dsimp only [ext, Option.getD] at hF
  repeat with_reducible first | refine wp_seq ?_ | refine nThen ?_ | refine nBlk ?_ | refine wp_skip ?_ | refine wp_block ?_ | refine wp_exit ?_ | refine xThen ?_ | refine xHere ?_ | refine wp_ret ?_
  refine' reg_all hF ?_ mixed (by kernel_rfl) ?_
  rotate_left
  · repeat (first
        | exact Line.nil
        | ((refine' Line.cons rfl (.run rfl rfl ?_) ?_)
           any_goals (first | exact cMove rfl rfl | exact cAssign rfl rfl | exact cLss rfl rfl rfl)
           rotate_left))
  intro a w3 hF hb hN
  have hBs := hB.size
  replace hB := hB.trans (hb.mono hB.size)
  dsimp only [ext, Option.getD] at hF
  repeat with_reducible first | refine wp_seq ?_ | refine nThen ?_ | refine nBlk ?_ | refine wp_skip ?_ | refine wp_block ?_ | refine wp_exit ?_ | refine xThen ?_ | refine xHere ?_ | refine wp_ret ?_
  refine loop_ty (fun m a wr => ∃ (k : Nat) (u : Value) (S : List Nat), k + m = l.length ∧ Fr 30 [(0, Ty.ex v), (3, Ty.ex u), (4, Ty.ex (.int .i64 (k : Int)))] a wr ∧ Below w.heap.size w wr ∧ Seg wr 28 32 u k (flat ((l.map fewS).take k)) S ∧ ∀ y ∈ S, w.heap.size ≤ y) l.length ?_ ?_
  · exact ⟨0, _, [], by omega, hF.keep [0, 3, 4], hB, Seg.nil _ _ _, by simp⟩
  clear hF hB
  rintro m a wr ⟨k, u, S, hk, hF, hB, hseg, hS⟩
  have hvr := TV.below hv hB
  repeat with_reducible first | refine wp_seq ?_ | refine nThen ?_ | refine nBlk ?_ | refine wp_skip ?_ | refine wp_block ?_ | refine wp_exit ?_ | refine xThen ?_ | refine xHere ?_ | refine wp_ret ?_
  refine' reg_all hF ?_ mixed (by kernel_rfl) ?_
  rotate_left
  · repeat (first
        | exact Line.nil
        | ((refine' Line.cons rfl (.run rfl rfl ?_) ?_)
           any_goals (first | exact cMove rfl rfl | exact cAssign rfl rfl | exact cLenH rfl (.l rfl hvr) (Ty.rd_isSl _ _) Tryz.underlying33 | exact cLss rfl rfl rfl)
           rotate_left))
  intro a w4 hF hb hN
  have hBs := hB.size
  replace hB := hB.trans (hb.mono hB.size)
  dsimp only [ext, Option.getD] at hF
  repeat with_reducible first | refine wp_seq ?_ | refine nThen ?_ | refine nBlk ?_ | refine wp_skip ?_ | refine wp_block ?_ | refine wp_exit ?_ | refine xThen ?_ | refine xHere ?_ | refine wp_ret ?_
  replace hseg := hseg.below hb
  replace hvr := TV.below hv hB
  refine cond_ty hF rfl (fun hlt => ?_) (fun hge => ?_)
  · have hlt : k < l.length := by have := of_decide_eq_true hlt; omega
    have hd1 := ivz_drop hlt
    have hsn := take_snocS l hlt
    obtain ⟨z, hz⟩ : ∃ z, z = l.getD k 0 := ⟨_, rfl⟩
    rw [← hz] at hd1 hsn
    have hO := sumOf1_ty (e := 95) (τ := Ty.sl 5 2 ((fewB z).map bv)) (fewB z) (reads_sl _ _ _) (fewB_lt z) (by simp [fewB])
    have hY : shaL (fewB z) = (fewS z).l := rfl
    rw [hY] at hO
    generalize fewS z = Y at *
    repeat with_reducible first | refine wp_seq ?_ | refine nThen ?_ | refine nBlk ?_ | refine wp_skip ?_ | refine wp_block ?_ | refine wp_exit ?_ | refine xThen ?_ | refine xHere ?_ | refine wp_ret ?_
    refine' region_ty 16 mixed (by kernel_rfl) hF ?_ ?_
    rotate_left
    · simp only [List.take_succ_cons, List.take_zero]
      repeat (first
          | exact Line.nil
          | ((refine' Line.cons rfl (.run rfl rfl ?_) ?_)
             any_goals (first | exact cMove rfl rfl | exact cAssign rfl rfl | exact cIndexR (k := k) (sz := 1) rfl (.l rfl hvr) rfl Tryz.underlying33 sizeI hlt (by rw [List.length_map]; omega) | exact cLoad1 (u := ivz z) rfl (Has.c (.t rfl) (fun W v h => by rw [Nat.mul_one, hd1] at h; exact h)) (pts_atR _) Tryz.underlying3 rfl | exact cConvR (n := z) (r := (((z % 256).toNat : Nat) : Int)) rfl rfl Tryz.underlying3 Tryz.underlying5 (u8_wrap z) | exact cShr (r := z / 256) rfl rfl rfl n8i (shr8z z) | exact cConvR (n := z / 256) (r := (((z / 256 % 256).toNat : Nat) : Int)) rfl rfl Tryz.underlying3 Tryz.underlying5 (u8_wrap _) | exact cBuildV (vs := [bv (z % 256).toNat, bv (z / 256 % 256).toNat]) rfl (parts2v rfl rfl rfl) Tryz.underlying95 infoU8 rfl (by simp [Value.cells, bv]) (by decide) (by simp [maxLen]) | exact cBuildT (τs := [Ty.sl 5 2 ((fewB z).map bv)]) rfl (partsT1 rfl (.t rfl) (Ty.sl_isSl _ _ _)) Tryz.underlying123 infoB rfl | exact cCall1 rfl rfl hO | exact cBuildSums [Y] rfl (parts1v rfl rfl) Tryz.underlying29 infoS rfl | exact cLss rfl rfl rfl)
             rotate_left))
    intro a w5 hF hb hN
    have hBs := hB.size
    replace hB := hB.trans (hb.mono hB.size)
    simp only [List.take_succ_cons, List.take_zero, List.drop_succ_cons, List.drop_zero] at hF hN ⊢
    dsimp only [ext, Option.getD] at hF
    replace hseg := hseg.below hb
    refine tlAppend (Δ := [(0, Ty.ex v), (4, Ty.ex (.int .i64 (k : Int)))]) (n := k) (m := 1) (news := flat [Y]) hF rfl rfl rfl rfl Tryz.underlying29 infoS zero32_size rfl hseg (.t rfl) sl_news (flat_len _) flat_one' (by simp [maxLen]; omega) (by omega) (hF.keep [0, 4]) rfl ?_
    intro a w6 u' S' hF hseg' hk7 hS'
    have hbS : ∀ y ∈ S', w.heap.size ≤ y := own_next hB hS hS'
    replace hB := below_own hB hk7 hS
    rw [← flat_append, ← hsn] at hseg'
    refine' tlOp hF rfl rfl rfl ?_ ?_
    rotate_left
    · first | exact cMove rfl rfl | exact cAssign rfl rfl | exact cLss rfl rfl rfl
    intro a w7 hF hb
    have hBs := hB.size
    replace hB := hB.trans (hb.mono hB.size)
    try (refine wpList_nil ?_)
    repeat with_reducible first | refine wp_seq ?_ | refine nThen ?_ | refine nBlk ?_ | refine wp_skip ?_ | refine wp_block ?_ | refine wp_exit ?_ | refine xThen ?_ | refine xHere ?_ | refine wp_ret ?_
    replace hseg' := hseg'.below hb
    refine' reg_all hF ?_ mixed (by kernel_rfl) ?_
    rotate_left
    · repeat (first
          | exact Line.nil
          | ((refine' Line.cons rfl (.run rfl rfl ?_) ?_)
             any_goals (first | exact cMove rfl rfl | exact cAssign rfl rfl | exact cAdd (r := ((k + 1 : Nat) : Int)) rfl rfl rfl (by omega) | exact cLss rfl rfl rfl)
             rotate_left))
    intro a w8 hF hb hN
    have hBs := hB.size
    replace hB := hB.trans (hb.mono hB.size)
    dsimp only [ext, Option.getD] at hF
    repeat with_reducible first | refine wp_seq ?_ | refine nThen ?_ | refine nBlk ?_ | refine wp_skip ?_ | refine wp_block ?_ | refine wp_exit ?_ | refine xThen ?_ | refine xHere ?_ | refine wp_ret ?_
    exact ⟨m - 1, by omega, k + 1, u', S', by omega, hF.keep [0, 3, 4], hB, hseg'.below hb, hbS⟩
  have hge : ¬ k < l.length := by have := of_decide_eq_false hge; omega
  obtain rfl : k = l.length := by omega
  rw [List.take_of_length_le (by rw [List.length_map]; exact Nat.le_refl _)] at hseg
  have hu4 : (Ty.sums 28 (l.map fewS)).p w4 u := by
    have h := hseg.sl
    rwa [show l.length = (l.map fewS).length by rw [List.length_map]] at h
  have hw4 : w.heap.size ≤ w4.heap.size := hB.size
  repeat with_reducible first | refine wp_seq ?_ | refine nThen ?_ | refine nBlk ?_ | refine wp_skip ?_ | refine wp_block ?_ | refine wp_exit ?_ | refine xThen ?_ | refine xHere ?_ | refine wp_ret ?_
  refine' reg_all hF ?_ mixed (by kernel_rfl) ?_
  rotate_left
  · repeat (first
        | exact Line.nil
        | ((refine' Line.cons rfl (.run rfl rfl ?_) ?_)
           any_goals (first | exact cMove rfl rfl | exact cAssign rfl rfl | exact cCallS1 rfl (.l rfl hu4) hof | exact cLss rfl rfl rfl)
           rotate_left))
  intro a w5 hF hb hN
  have hBs := hB.size
  replace hB := hB.trans (hb.mono hB.size)
  dsimp only [ext, Option.getD] at hF
  repeat with_reducible first | refine wp_seq ?_ | refine nThen ?_ | refine nBlk ?_ | refine wp_skip ?_ | refine wp_block ?_ | refine wp_exit ?_ | refine xThen ?_ | refine xHere ?_ | refine wp_ret ?_
  refine ret1 hF rfl rfl fun y hy => ?_
  exact ⟨y, rfl, seg_old hw4 _ _ hy, hB⟩
end Go.Proofs.YtmefpnklgfhggaaGreatDoor

/- Layer 15 by types: change, Put, Take, Count. -/
namespace Go.Proofs.YtmefpnklgfhggaaGreatDoor
open Go.RowKit

theorem getD_take {L : List Cl} {j p : Nat} (h : j < p) : (L.take p).getD j default = L.getD j default := by
  simp only [List.getD, List.getElem?_take]
  rw [if_pos h]
end Go.Proofs.YtmefpnklgfhggaaGreatDoor

/- Layer 10: the walks of BinarySearchFunc, has, Has. -/
namespace Go.Proofs.YtmefpnklgfhggaaGreatDoor
open Go.RowKit

abbrev cmpF : Value := .func (.func 63) #[] #[]
set_option maxRecDepth 100000 in
set_option maxHeartbeats 2000000 in
theorem bsearch_ty (L : List Sm) (x : Sm) (hL : L.length ≤ 1000000) (hs : srt L) : Fn3 Tryz.prog 94 (Ty.sums 28 L) (Ty.ex (.agg (u8s x.l))) (Ty.ex cmpF) (Ty.tup [Ty.any, Ty.ex (.bool (decide (x ∈ L)))]) := by
  refine ⟨fun args w => by kernel_rfl, fun w v u t hv hu ht => ?_⟩
  refine enter_ty 49 [Ty.ex v, Ty.ex (.agg (u8s x.l)), Ty.ex cmpF] Tryz.func94 rfl (by kernel_rfl) ⟨rfl, hu, ht, trivial⟩ fun a hF => ?_
  have hB := Below.refl w.heap.size w
  repeat with_reducible refine wp_seq ?_
  refine' reg_all hF ?_ mixed (by kernel_rfl) ?_
  rotate_left
  · repeat (first | exact Line.nil | ((refine' Line.cons rfl (.run rfl rfl ?_) ?_); (any_goals (first | exact cBoxSum rfl rfl | exact cAssign rfl rfl)); rotate_left))
  intro a w1 hF hb hN
  have hBs := hB.size
  replace hB := hB.trans (hb.mono hB.size)
  dsimp only [ext, Option.getD] at hF
  repeat with_reducible first | refine wp_seq ?_ | refine nThen ?_
  refine' reg_all hF ?_ mixed (by kernel_rfl) ?_
  rotate_left
  · repeat (first | exact Line.nil | ((refine' Line.cons rfl (.run rfl rfl ?_) ?_); (any_goals (first | exact cLenH rfl (.l rfl ((Ty.sums 28 L).below hv hB)) (Ty.sl_isSl _ _ _) Tryz.underlying30 | exact cMove rfl rfl | exact cAssign rfl rfl)); rotate_left))
  intro a w2 hF hb hN
  have hBs := hB.size
  replace hB := hB.trans (hb.mono hB.size)
  dsimp only [ext, Option.getD] at hF
  repeat with_reducible first | refine wp_seq ?_ | refine nThen ?_
  refine' reg_all hF ?_ mixed (by kernel_rfl) ?_
  rotate_left
  · repeat (first | exact Line.nil | ((refine' Line.cons rfl (.run rfl rfl ?_) ?_); (any_goals (first | exact cMove rfl rfl | exact cAssign rfl rfl)); rotate_left))
  intro a w3 hF hb hN
  have hBs := hB.size
  replace hB := hB.trans (hb.mono hB.size)
  dsimp only [ext, Option.getD] at hF
  repeat with_reducible first | refine wp_seq ?_ | refine nThen ?_ | refine wp_block ?_
  refine loop_ty (fun m a wr => ∃ lo hi : Nat, hi = lo + m ∧ hi ≤ L.length ∧ Fr 49 [(0, Ty.ex v), (2, Ty.ex cmpF), (4, Ty.at_ 28 x.enc), (8, Ty.ex (.int .i64 (L.length : Int))), (9, Ty.ex (.int .i64 (lo : Int))), (10, Ty.ex (.int .i64 (hi : Int)))] a wr ∧ Below w.heap.size w wr ∧
      (∀ j, j < lo → cmpL (L.getD j default).l x.l < 0) ∧ ∀ j, hi ≤ j → j < L.length → ¬ cmpL (L.getD j default).l x.l < 0) L.length ?_ ?_
  · exact ⟨0, L.length, by omega, Nat.le_refl _, hF.keep [0, 2, 4, 8, 9, 10], hB, fun j hj => by omega, fun j h1 h2 => by omega⟩
  clear hF hB
  rintro m a wr ⟨lo, hi, rfl, hlen, hF, hB, hlo, hhi⟩
  repeat with_reducible refine wp_seq ?_
  refine' reg_all hF ?_ mixed (by kernel_rfl) ?_
  rotate_left
  · repeat (first | exact Line.nil | ((refine' Line.cons rfl (.run rfl rfl ?_) ?_); (any_goals (first | exact cMove rfl rfl | exact cLss rfl rfl rfl)); rotate_left))
  intro a w4 hF hb hN
  have hBs := hB.size
  replace hB := hB.trans (hb.mono hB.size)
  dsimp only [ext, Option.getD] at hF
  repeat with_reducible refine nThen ?_
  refine cond_ty hF rfl (fun hlt => ?_) (fun hge => ?_)
  · have hlt : 0 < m := by have := of_decide_eq_true hlt; omega
    have hmid : (lo + (lo + m)) / 2 < lo + m := by omega
    repeat with_reducible first | refine wp_seq ?_ | refine nThen ?_ | refine wp_skip ?_ | refine wp_block ?_
    refine' reg_all hF ?_ mixed (by kernel_rfl) ?_
    rotate_left
    · repeat (first | exact Line.nil | ((refine' Line.cons rfl (.run rfl rfl ?_) ?_); (any_goals (first | exact cAdd (r := ((lo + (lo + m) : Nat) : Int)) rfl rfl rfl (by omega) | exact cConvR (r := ((lo + (lo + m) : Nat) : Int)) rfl rfl Tryz.underlying3 Tryz.underlying94 (by simp [IntKind.wrap, IntKind.bits]; omega) | exact cShr (r := (((lo + (lo + m)) / 2 : Nat) : Int)) rfl rfl rfl (by decide) (by simp [Int.fdiv_eq_ediv_of_nonneg]) | exact cConvR (r := (((lo + (lo + m)) / 2 : Nat) : Int)) rfl rfl Tryz.underlying94 Tryz.underlying3 (by simp [IntKind.wrap, IntKind.bits]; omega) | exact cMove rfl rfl | exact cAssign rfl rfl)); rotate_left))
    intro a w5 hF hb hN
    have hBs := hB.size
    replace hB := hB.trans (hb.mono hB.size)
    dsimp only [ext, Option.getD] at hF
    repeat with_reducible first | refine wp_seq ?_ | refine nThen ?_
    have hh1 : lo ≤ (lo + (lo + m)) / 2 := by omega
    generalize (lo + (lo + m)) / 2 = h at *
    refine' reg_all hF ?_ mixed (by kernel_rfl) ?_
    rotate_left
    · repeat (first | exact Line.nil | ((refine' Line.cons rfl (.run rfl rfl ?_) ?_); (any_goals (first | exact cIndexSum (k := h) rfl (.l rfl ((Ty.sums 28 L).below hv hB)) rfl Tryz.underlying30 sizeS (by omega) | exact cLoadSum rfl (.t rfl) Tryz.underlying28 sizeS | exact cCallV2 rfl rfl (.t rfl) (.t rfl) (cmp_ty _ _) | exact cMove rfl rfl | exact cLss rfl rfl rfl)); rotate_left))
    intro a w6 hF hb hN
    have hBs := hB.size
    replace hB := hB.trans (hb.mono hB.size)
    dsimp only [ext, Option.getD] at hF
    repeat with_reducible refine nThen ?_
    refine cond_ty hF rfl (fun hc => ?_) (fun hc => ?_)
    · have hc := of_decide_eq_true hc
      refine' reg_all hF ?_ mixed (by kernel_rfl) ?_
      rotate_left
      · repeat (first | exact Line.nil | ((refine' Line.cons rfl (.run rfl rfl ?_) ?_); (any_goals (first | exact cAdd (r := ((h + 1 : Nat) : Int)) rfl rfl rfl (by omega) | exact cMove rfl rfl | exact cAssign rfl rfl)); rotate_left))
      intro a w7 hF hb hN
      have hBs := hB.size
      replace hB := hB.trans (hb.mono hB.size)
      dsimp only [ext, Option.getD] at hF
      repeat with_reducible first | refine nThen ?_ | refine nBlk ?_
      refine ⟨lo + m - (h + 1), by omega, h + 1, lo + m, by omega, hlen, hF.keep [0, 2, 4, 8, 9, 10], hB, fun j hj => ?_, hhi⟩
      by_cases hjh : j = h
      · subst hjh; exact hc
      · have := lt_get hs (i := j) (j := h) (by omega) (by omega)
        exact cmp_lt_trans (by omega) (by omega) (.inl this)
    · have hc := of_decide_eq_false hc
      refine' reg_all hF ?_ mixed (by kernel_rfl) ?_
      rotate_left
      · repeat (first | exact Line.nil | ((refine' Line.cons rfl (.run rfl rfl ?_) ?_); (any_goals (first | exact cMove rfl rfl | exact cAssign rfl rfl)); rotate_left))
      intro a w7 hF hb hN
      have hBs := hB.size
      replace hB := hB.trans (hb.mono hB.size)
      dsimp only [ext, Option.getD] at hF
      repeat with_reducible first | refine nThen ?_ | refine nBlk ?_
      refine ⟨h - lo, by omega, lo, h, by omega, by omega, hF.keep [0, 2, 4, 8, 9, 10], hB, hlo, fun j hj hjl hjx => ?_⟩
      by_cases hjh : j = h
      · subst hjh; exact hc hjx
      · have := lt_get hs (i := h) (j := j) (by omega) (by omega)
        exact hc (cmp_lt_trans (by omega) (by omega) (.inl this))
  · have hge : m = 0 := by have := of_decide_eq_false hge; omega
    subst hge
    rw [Nat.add_zero] at *
    repeat with_reducible first | refine wp_seq ?_ | refine nThen ?_ | refine wp_exit ?_ | refine xThen ?_ | refine xHere ?_
    by_cases hle : lo < L.length
    · by_cases he : cmpL (L.getD lo default).l x.l = 0
      · refine' reg_all hF ?_ mixed (by kernel_rfl) ?_
        rotate_left
        · repeat (first | exact Line.nil | ((first | refine' Line.cons rfl (.run rfl rfl ?_) ?_ | refine' Line.cons rfl (.yes rfl rfl rfl rfl ?_) ?_); (any_goals (first | exact OpOk.b (c := true) (cLss rfl rfl rfl) (decide_eq_true (by omega)) | exact OpOk.b (c := true) (cEql rfl rfl rfl) (decide_eq_true he) | exact cIndexSum (k := lo) rfl (.l rfl ((Ty.sums 28 L).below hv hB)) rfl Tryz.underlying30 sizeS hle | exact cLoadSum rfl (.t rfl) Tryz.underlying28 sizeS | exact cCallV2 rfl rfl (.t rfl) (.t rfl) (cmp_ty _ _) | exact cMove rfl rfl | exact cAssign rfl rfl | exact cPickT rfl rfl rfl)); rotate_left))
        intro a w5 hF hb hN
        have hBs := hB.size
        replace hB := hB.trans (hb.mono hB.size)
        dsimp only [ext, Option.getD] at hF
        repeat with_reducible first | refine nThen ?_ | refine wp_ret ?_
        refine ret2 hF rfl rfl rfl fun y z hy hz => ?_
        refine ⟨_, rfl, ⟨[y, z], rfl, trivial, ?_, trivial⟩, hB⟩
        rw [decide_eq_true (mem_get.2 ⟨lo, hle, cmp_zero.1 he⟩)]
        exact hz
      · refine' reg_all hF ?_ mixed (by kernel_rfl) ?_
        rotate_left
        · repeat (first | exact Line.nil | ((first | refine' Line.cons rfl (.run rfl rfl ?_) ?_ | refine' Line.cons rfl (.yes rfl rfl rfl rfl ?_) ?_); (any_goals (first | exact OpOk.b (c := true) (cLss rfl rfl rfl) (decide_eq_true (by omega)) | exact OpOk.b (c := false) (cEql rfl rfl rfl) (decide_eq_false he) | exact cIndexSum (k := lo) rfl (.l rfl ((Ty.sums 28 L).below hv hB)) rfl Tryz.underlying30 sizeS hle | exact cLoadSum rfl (.t rfl) Tryz.underlying28 sizeS | exact cCallV2 rfl rfl (.t rfl) (.t rfl) (cmp_ty _ _) | exact cMove rfl rfl | exact cAssign rfl rfl | exact cPickT rfl rfl rfl)); rotate_left))
        intro a w5 hF hb hN
        have hBs := hB.size
        replace hB := hB.trans (hb.mono hB.size)
        dsimp only [ext, Option.getD] at hF
        repeat with_reducible first | refine nThen ?_ | refine wp_ret ?_
        refine ret2 hF rfl rfl rfl fun y z hy hz => ?_
        refine ⟨_, rfl, ⟨[y, z], rfl, trivial, ?_, trivial⟩, hB⟩
        rw [decide_eq_false]
        · exact hz
        · intro hm
          obtain ⟨j, hj, hjx⟩ := mem_get.1 hm
          have h1 : cmpL (L.getD j default).l x.l = 0 := cmp_zero.2 hjx
          rcases Nat.lt_trichotomy j lo with h2 | h2 | h2
          · have := hlo j h2; omega
          · subst h2; exact he h1
          · have h3 := lt_get hs h2 hj
            rw [hjx] at h3
            exact hhi lo (Nat.le_refl _) hle h3
    · refine' reg_all hF ?_ mixed (by kernel_rfl) ?_
      rotate_left
      · repeat (first | exact Line.nil | (refine' Line.cons rfl (.no rfl rfl rfl rfl rfl rfl) ?_; rotate_left) | ((refine' Line.cons rfl (.run rfl rfl ?_) ?_); (any_goals (first | exact OpOk.b (c := false) (cLss rfl rfl rfl) (decide_eq_false (by omega)) | exact cMove rfl rfl | exact cAssign rfl rfl | exact cPickF rfl rfl rfl)); rotate_left))
      intro a w5 hF hb hN
      have hBs := hB.size
      replace hB := hB.trans (hb.mono hB.size)
      dsimp only [ext, Option.getD] at hF
      repeat with_reducible first | refine nThen ?_ | refine wp_ret ?_
      refine ret2 hF rfl rfl rfl fun y z hy hz => ?_
      refine ⟨_, rfl, ⟨[y, z], rfl, trivial, ?_, trivial⟩, hB⟩
      rw [decide_eq_false]
      · exact hz
      · intro hm
        obtain ⟨j, hj, hjx⟩ := mem_get.1 hm
        have := hlo j (by omega)
        rw [hjx, cmp_self] at this
        omega

set_option maxRecDepth 100000 in
theorem hasI_ty (L : List Sm) (x : Sm) (hL : L.length ≤ 1000000) (hs : srt L) : Fn2 Tryz.prog 62 (Ty.sums 28 L) (Ty.ex (.agg (u8s x.l))) (Ty.ex (.bool (decide (x ∈ L)))) := by
  refine ⟨fun args w => by kernel_rfl, fun w v u hv hu => ?_⟩
  refine enter_ty 14 [Ty.ex v, Ty.ex (.agg (u8s x.l))] Tryz.func62 rfl (by kernel_rfl) ⟨rfl, hu, trivial⟩ fun a hF => ?_
  have hB := Below.refl w.heap.size w
  repeat with_reducible refine wp_seq ?_
  refine' reg_all hF ?_ mixed (by kernel_rfl) ?_
  rotate_left
  · repeat (first | exact Line.nil | ((refine' Line.cons rfl (.run rfl rfl ?_) ?_); (any_goals (first | exact cBoxSum rfl rfl | exact cAssign rfl rfl)); rotate_left))
  intro a w1 hF hb hN
  have hBs := hB.size
  replace hB := hB.trans (hb.mono hB.size)
  dsimp only [ext, Option.getD] at hF
  repeat with_reducible first | refine wp_seq ?_ | refine nThen ?_
  refine' reg_all hF ?_ mixed (by kernel_rfl) ?_
  rotate_left
  · repeat (first | exact Line.nil | ((refine' Line.cons rfl (.run rfl rfl ?_) ?_); (any_goals (first | exact cLoadSum rfl (.t rfl) Tryz.underlying28 sizeS | exact cCallH3 rfl (.l rfl ((Ty.sums 28 L).below hv hB)) (.t rfl) (.t rfl) (bsearch_ty L x hL hs) | exact cMove rfl rfl | exact cAssign rfl rfl | exact cExtract rfl rfl rfl)); rotate_left))
  intro a w2 hF hb hN
  have hBs := hB.size
  replace hB := hB.trans (hb.mono hB.size)
  dsimp only [ext, Option.getD] at hF
  repeat with_reducible first | refine wp_seq ?_ | refine nThen ?_
  refine' reg_all hF ?_ mixed (by kernel_rfl) ?_
  rotate_left
  · repeat (first | exact Line.nil | ((refine' Line.cons rfl (.run rfl rfl ?_) ?_); (any_goals (first | exact cMove rfl rfl | exact cAssign rfl rfl)); rotate_left))
  intro a w3 hF hb hN
  have hBs := hB.size
  replace hB := hB.trans (hb.mono hB.size)
  dsimp only [ext, Option.getD] at hF
  repeat with_reducible first | refine nThen ?_ | refine wp_ret ?_
  refine ret1 hF rfl rfl fun z hz => ?_
  exact ⟨z, rfl, hz, hB⟩
end Go.Proofs.YtmefpnklgfhggaaGreatDoor

/- Layer 10: the walks of IndexFunc, DeleteFunc, Minus, Both. -/
namespace Go.Proofs.YtmefpnklgfhggaaGreatDoor
open Go.RowKit

theorem PredK.at_ {P : Program} {f : FuncId} {cb : Array Value} {S : List Nat} {w w0 : World} {p : Sm → Bool} (h : PredK P f cb S w p) (k : Keeps S w w0) (x : Sm) : ∀ W, Below w0.heap.size w0 W → Ret P f (#[.agg (u8s x.l)] ++ cb) W (Ty.ex (.bool (p x))) := fun W hb => h W x (k.trans (Keeps.of_below hb))
/-- The first that passes, or -1. -/
def FirstP (D : List Sm) (p : Sm → Bool) (r : Int) : Prop := (∃ k : Nat, r = (k : Int) ∧ k < D.length ∧ p (D.getD k default) = true ∧ ∀ j, j < k → p (D.getD j default) = false) ∨ (r = -1 ∧ ∀ j, j < D.length → p (D.getD j default) = false)
theorem first_is (D : List Sm) (p : Sm → Bool) : ∃ r, FirstP D p r := by
  suffices h : ∀ m, m ≤ D.length → (∃ r, FirstP D p r) ∨ ∀ j, j < m → p (D.getD j default) = false by
    rcases h D.length (Nat.le_refl _) with h | h
    · exact h
    · exact ⟨-1, .inr ⟨rfl, h⟩⟩
  intro m
  induction m with
  | zero => intro _; exact .inr fun j hj => by omega
  | succ m ih =>
    intro hm
    rcases ih (by omega) with h | h
    · exact .inl h
    · cases hp : p (D.getD m default) with
      | true => exact .inl ⟨_, .inl ⟨m, rfl, by omega, hp, h⟩⟩
      | false =>
        refine .inr fun j hj => ?_
        by_cases hjm : j = m
        · subst hjm; exact hp
        · exact h j (by omega)

set_option maxRecDepth 100000 in
theorem indexf_any {f : FuncId} {cb : Array Value} {S : List Nat} {p : Sm → Bool} (he : Enters Tryz.prog f) (D : List Sm) (w : World) (v : Value) (hv : (Ty.sums 28 D).p w v) (hD : D.length ≤ 1000000) (hp : PredK Tryz.prog f cb S w p) {r : Int} (hr : FirstP D p r) :
    Ret Tryz.prog 93 #[v, .func (.func f) #[] cb] w (Ty.ex (.int .i64 r)) := by
  generalize hfv : (Value.func (.func f) #[] cb) = fv
  refine enter_ty 19 [Ty.ex v, Ty.ex fv] Tryz.func93 rfl (by kernel_rfl) ⟨rfl, rfl, trivial⟩ fun a hF => ?_
  subst hfv
  have hB := Below.refl w.heap.size w
  repeat with_reducible refine wp_seq ?_
  refine' reg_all hF ?_ mixed (by kernel_rfl) ?_
  rotate_left
  · repeat (first | exact Line.nil | ((refine' Line.cons rfl (.run rfl rfl ?_) ?_); (any_goals exact cAssign rfl rfl); rotate_left))
  intro a w1 hF hb hN
  have hBs := hB.size
  replace hB := hB.trans (hb.mono hB.size)
  dsimp only [ext, Option.getD] at hF
  repeat with_reducible first | refine wp_seq ?_ | refine nThen ?_
  refine' reg_all hF ?_ mixed (by kernel_rfl) ?_
  rotate_left
  · repeat (first | exact Line.nil | ((refine' Line.cons rfl (.run rfl rfl ?_) ?_); (any_goals (first | exact cLenH rfl (.l rfl ((Ty.sums 28 D).below hv hB)) (Ty.sl_isSl _ _ _) Tryz.underlying30 | exact cMove rfl rfl)); rotate_left))
  intro a w2 hF hb hN
  have hBs := hB.size
  replace hB := hB.trans (hb.mono hB.size)
  dsimp only [ext, Option.getD] at hF
  repeat with_reducible first | refine nThen ?_ | refine wp_block ?_
  refine loop_ty (fun m a wr => ∃ k : Nat, k + m = D.length ∧ Fr 19 [(0, Ty.ex v), (1, Ty.ex (.func (.func f) #[] cb)), (7, Ty.ex (.int .i64 (D.length : Int))), (8, Ty.ex (.int .i64 (k : Int)))] a wr ∧ Below w.heap.size w wr ∧ ∀ j, j < k → p (D.getD j default) = false) D.length ?_ ?_
  · exact ⟨0, by omega, hF.keep [0, 1, 7, 8], hB, fun j hj => by omega⟩
  clear hF hB
  rintro m a wr ⟨k, hk, hF, hB, hlo⟩
  repeat with_reducible refine wp_seq ?_
  refine' reg_all hF ?_ mixed (by kernel_rfl) ?_
  rotate_left
  · repeat (first | exact Line.nil | ((refine' Line.cons rfl (.run rfl rfl ?_) ?_); (any_goals exact cLss rfl rfl rfl); rotate_left))
  intro a w3 hF hb hN
  have hBs := hB.size
  replace hB := hB.trans (hb.mono hB.size)
  dsimp only [ext, Option.getD] at hF
  repeat with_reducible first | refine wp_seq ?_ | refine nThen ?_
  refine cond_ty hF rfl (fun hlt => ?_) (fun hge => ?_)
  · have hlt : k < D.length := by have := of_decide_eq_true hlt; omega
    repeat with_reducible first | refine wp_seq ?_ | refine nThen ?_ | refine wp_skip ?_ | refine wp_block ?_
    refine' reg_all hF ?_ mixed (by kernel_rfl) ?_
    rotate_left
    · repeat (first | exact Line.nil | ((refine' Line.cons rfl (.run rfl rfl ?_) ?_); (any_goals (first | exact cMove rfl rfl | exact cAssign rfl rfl)); rotate_left))
    intro a w4 hF hb hN
    have hBs := hB.size
    replace hB := hB.trans (hb.mono hB.size)
    dsimp only [ext, Option.getD] at hF
    repeat with_reducible first | refine wp_seq ?_ | refine nThen ?_
    refine' reg_all hF ?_ mixed (by kernel_rfl) ?_
    rotate_left
    · repeat (first | exact Line.nil | ((refine' Line.cons rfl (.run rfl rfl ?_) ?_); (any_goals (first | exact cIndexSum (k := k) rfl (.l rfl ((Ty.sums 28 D).below hv hB)) rfl Tryz.underlying30 sizeS hlt | exact cLoadSum rfl (.t rfl) Tryz.underlying28 sizeS | exact cCallC1 rfl rfl rfl he (hp.at_ (Keeps.of_below hB) _) | exact cMove rfl rfl)); rotate_left))
    intro a w5 hF hb hN
    have hBs := hB.size
    replace hB := hB.trans (hb.mono hB.size)
    dsimp only [ext, Option.getD] at hF
    repeat with_reducible refine nThen ?_
    refine cond_ty hF rfl (fun hc => ?_) (fun hc => ?_)
    · repeat with_reducible refine wp_seq ?_
      refine' reg_all hF ?_ mixed (by kernel_rfl) ?_
      rotate_left
      · repeat (first | exact Line.nil | ((refine' Line.cons rfl (.run rfl rfl ?_) ?_); (any_goals (first | exact cMove rfl rfl | exact cAssign rfl rfl)); rotate_left))
      intro a w6 hF hb hN
      have hBs := hB.size
      replace hB := hB.trans (hb.mono hB.size)
      dsimp only [ext, Option.getD] at hF
      repeat with_reducible first | refine nThen ?_ | refine wp_ret ?_ | refine rThen ?_ | refine rBlk ?_
      refine ret1 hF rfl rfl fun z hz => ?_
      refine ⟨z, rfl, ?_, hB⟩
      have hrk : r = (k : Int) := by
        rcases hr with ⟨k', e1, e2, e3, e4⟩ | ⟨e1, e2⟩
        · rcases Nat.lt_trichotomy k k' with h | h | h
          · rw [e4 k h] at hc; cases hc
          · rw [e1, h]
          · rw [hlo k' h] at e3; cases e3
        · rw [e2 k hlt] at hc; cases hc
      rw [hrk]; exact hz
    · repeat with_reducible first | refine nThen ?_ | refine nBlk ?_ | refine wp_skip ?_
      refine' reg_all hF ?_ mixed (by kernel_rfl) ?_
      rotate_left
      · repeat (first | exact Line.nil | ((refine' Line.cons rfl (.run rfl rfl ?_) ?_); (any_goals (first | exact cAdd (r := ((k + 1 : Nat) : Int)) rfl rfl rfl (by omega) | exact cMove rfl rfl)); rotate_left))
      intro a w6 hF hb hN
      have hBs := hB.size
      replace hB := hB.trans (hb.mono hB.size)
      dsimp only [ext, Option.getD] at hF
      repeat with_reducible refine nThen ?_
      refine ⟨m - 1, by omega, k + 1, by omega, hF.keep [0, 1, 7, 8], hB, fun j hj => ?_⟩
      by_cases hjk : j = k
      · subst hjk; exact hc
      · exact hlo j (by omega)
  · have hge : ¬ k < D.length := by have := of_decide_eq_false hge; omega
    repeat with_reducible first | refine wp_seq ?_ | refine nThen ?_ | refine wp_exit ?_ | refine xThen ?_ | refine xHere ?_
    refine' reg_all hF ?_ mixed (by kernel_rfl) ?_
    rotate_left
    · repeat (first | exact Line.nil | ((refine' Line.cons rfl (.run rfl rfl ?_) ?_); (any_goals exact cAssign rfl rfl); rotate_left))
    intro a w4 hF hb hN
    have hBs := hB.size
    replace hB := hB.trans (hb.mono hB.size)
    dsimp only [ext, Option.getD] at hF
    repeat with_reducible first | refine nThen ?_ | refine wp_ret ?_
    refine ret1 hF rfl rfl fun z hz => ?_
    refine ⟨z, rfl, ?_, hB⟩
    have hrk : r = -1 := by
      rcases hr with ⟨k', e1, e2, e3, e4⟩ | ⟨e1, e2⟩
      · rw [hlo k' (by omega)] at e3; cases e3
      · exact e1
    rw [hrk]; exact hz

theorem filt_snoc_in {D : List Sm} {p : Sm → Bool} {m : Nat} (h : m < D.length) (hp : p (D.getD m default) = false) : (D.take (m + 1)).filter (fun x => !p x) = (D.take m).filter (fun x => !p x) ++ [D.getD m default] := by
  rw [take_snoc' D h, List.filter_append]
  generalize D.getD m default = x at *
  simp [hp]
theorem filt_snoc_out {D : List Sm} {p : Sm → Bool} {m : Nat} (h : m < D.length) (hp : p (D.getD m default) = true) : (D.take (m + 1)).filter (fun x => !p x) = (D.take m).filter (fun x => !p x) := by
  rw [take_snoc' D h, List.filter_append]
  generalize D.getD m default = x at *
  simp [hp]
theorem filt_pre {D : List Sm} {p : Sm → Bool} : ∀ {m : Nat}, m ≤ D.length → (∀ j, j < m → p (D.getD j default) = false) → (D.take m).filter (fun x => !p x) = D.take m
  | 0, _, _ => rfl
  | m + 1, h, hp => by rw [filt_snoc_in h (hp m (by omega)), filt_pre (by omega) fun j hj => hp j (by omega), take_snoc' D h]

set_option maxRecDepth 100000 in
set_option maxHeartbeats 2000000 in
theorem delete_any {f : FuncId} {cb : Array Value} {p : Sm → Bool} (he : Enters Tryz.prog f) (D : List Sm) (w : World) (g off cap : Nat) (hs0 : SegL w 28 32 g off D.length cap (flat D)) (hD : D.length ≤ 1000000) (hp : PredK Tryz.prog f cb [g] w p) :
    Calls Tryz.prog 60 #[.slice (some ⟨g, off, none⟩) D.length cap, .func (.func f) #[] cb] w fun e w' => ∃ k, e = .returned (.slice (some ⟨g, off, none⟩) k cap) ∧ k = (D.filter fun x => !p x).length ∧ SegL w' 28 32 g off k cap (flat (D.filter fun x => !p x)) ∧ Keeps [g] w w' := by
  have hcap : D.length ≤ cap := hs0.2.1
  obtain ⟨r, hr⟩ := first_is D p
  generalize hfv : (Value.func (.func f) #[] cb) = fv
  refine enter_ty 42 [Ty.ex (.slice (some ⟨g, off, none⟩) D.length cap), Ty.ex fv] Tryz.func60 rfl (by kernel_rfl) ⟨rfl, rfl, trivial⟩ fun a hF => ?_
  subst hfv
  have hB := Below.refl w.heap.size w
  repeat with_reducible refine wp_seq ?_
  refine' reg_all hF ?_ mixed (by kernel_rfl) ?_
  rotate_left
  · repeat (first | exact Line.nil | ((refine' Line.cons rfl (.run rfl rfl ?_) ?_); (any_goals exact cAssign rfl rfl); rotate_left))
  intro a w1 hF hb hN
  have hBs := hB.size
  replace hB := hB.trans (hb.mono hB.size)
  dsimp only [ext, Option.getD] at hF
  repeat with_reducible first | refine wp_seq ?_ | refine nThen ?_
  have hei : Enters Tryz.prog 93 := fun args w => by kernel_rfl
  refine' reg_all hF ?_ mixed (by kernel_rfl) ?_
  rotate_left
  · repeat (first | exact Line.nil | ((refine' Line.cons rfl (.run rfl rfl ?_) ?_); (any_goals (first | exact cCallW2 rfl rfl rfl hei (fun W x y hb hx hy => by have hx : x = .slice (some ⟨g, off, none⟩) D.length cap := hx; have hy : y = .func (.func f) #[] cb := hy; subst hx hy; exact indexf_any he D W _ ((hs0.below hB).below hb).sl hD ((hp.later (Keeps.of_below hB)).later (Keeps.of_below hb)) hr) | exact cMove rfl rfl | exact cAssign rfl rfl)); rotate_left))
  intro a w2 hF hb hN
  have hBs := hB.size
  replace hB := hB.trans (hb.mono hB.size)
  dsimp only [ext, Option.getD] at hF
  repeat with_reducible first | refine wp_seq ?_ | refine nThen ?_
  refine' reg_all hF ?_ mixed (by kernel_rfl) ?_
  rotate_left
  · repeat (first | exact Line.nil | ((refine' Line.cons rfl (.run rfl rfl ?_) ?_); (any_goals (first | exact cMove rfl rfl | exact cEql rfl rfl rfl)); rotate_left))
  intro a w3 hF hb hN
  have hBs := hB.size
  replace hB := hB.trans (hb.mono hB.size)
  dsimp only [ext, Option.getD] at hF
  repeat with_reducible refine nThen ?_
  rcases hr with ⟨k, rfl, hk, hpk, hlo⟩ | ⟨rfl, hall⟩
  rotate_left
  · refine cond_t hF rfl ?_
    repeat with_reducible refine wp_seq ?_
    refine' reg_all hF ?_ mixed (by kernel_rfl) ?_
    rotate_left
    · repeat (first | exact Line.nil | ((refine' Line.cons rfl (.run rfl rfl ?_) ?_); (any_goals (first | exact cMove rfl rfl | exact cAssign rfl rfl)); rotate_left))
    intro a w4 hF hb hN
    have hBs := hB.size
    replace hB := hB.trans (hb.mono hB.size)
    dsimp only [ext, Option.getD] at hF
    repeat with_reducible first | refine nThen ?_ | refine wp_ret ?_ | refine rThen ?_
    refine ret1 hF rfl rfl fun z hz => ?_
    have hz : z = .slice (some ⟨g, off, none⟩) D.length cap := hz
    subst hz
    have hfd : (D.filter fun x => !p x) = D := by have := filt_pre (Nat.le_refl _) hall; rwa [List.take_length] at this
    rw [hfd]
    exact ⟨D.length, rfl, rfl, hs0.below hB, Keeps.of_below hB⟩
  refine cond_ty hF rfl (fun hbad => absurd (of_decide_eq_true hbad) (by omega)) (fun _ => ?_)
  repeat with_reducible first | refine wp_seq ?_ | refine nThen ?_ | refine wp_skip ?_
  refine' reg_all hF ?_ mixed (by kernel_rfl) ?_
  rotate_left
  · repeat (first | exact Line.nil | ((refine' Line.cons rfl (.run rfl rfl ?_) ?_); (any_goals (first | exact cAdd (r := ((k + 1 : Nat) : Int)) rfl rfl rfl (by omega) | exact cMove rfl rfl | exact cAssign rfl rfl)); rotate_left))
  intro a w4 hF hb hN
  have hBs := hB.size
  replace hB := hB.trans (hb.mono hB.size)
  dsimp only [ext, Option.getD] at hF
  repeat with_reducible first | refine nThen ?_ | refine wp_block ?_
  refine loop_ty (fun m a wr => ∃ (i j : Nat) (E : List Sm), i + m = D.length ∧ E.length = D.length ∧ j = ((D.take i).filter fun x => !p x).length ∧ j < i ∧ E.take j = (D.take i).filter (fun x => !p x) ∧ (∀ q, i ≤ q → E.getD q default = D.getD q default) ∧
      Fr 42 [(0, Ty.ex (.slice (some ⟨g, off, none⟩) D.length cap)), (1, Ty.ex (.func (.func f) #[] cb)), (5, Ty.ex (.int .i64 (j : Int))), (6, Ty.ex (.int .i64 (i : Int)))] a wr ∧ SegL wr 28 32 g off D.length cap (flat E) ∧ Keeps [g] w wr) (D.length - (k + 1)) ?_ ?_
  · have hpre := filt_pre (D := D) (p := p) (m := k) (by omega) hlo
    refine ⟨k + 1, k, D, by omega, rfl, ?_, by omega, ?_, fun _ _ => rfl, hF.keep [0, 1, 5, 6], hs0.below hB, Keeps.of_below hB⟩
    · rw [filt_snoc_out hk hpk, hpre]; simp; omega
    · rw [filt_snoc_out hk hpk, hpre]
  clear hF hB hs0
  rintro m a wr ⟨i, j, E, hi, hE, hj, hji, hjt, hsame, hF, hseg, hKw⟩
  have hB := Below.refl wr.heap.size wr
  repeat with_reducible refine wp_seq ?_
  refine' reg_all hF ?_ mixed (by kernel_rfl) ?_
  rotate_left
  · repeat (first | exact Line.nil | ((refine' Line.cons rfl (.run rfl rfl ?_) ?_); (any_goals (first | exact cLenEx rfl rfl Tryz.underlying30 | exact cMove rfl rfl | exact cLss rfl rfl rfl)); rotate_left))
  intro a w8 hF hb hN
  have hBs := hB.size
  replace hB := hB.trans (hb.mono hB.size)
  dsimp only [ext, Option.getD] at hF
  repeat with_reducible refine nThen ?_
  refine cond_ty hF rfl (fun hlt => ?_) (fun hge => ?_)
  rotate_left
  · have hge : ¬ i < D.length := by have := of_decide_eq_false hge; omega
    obtain rfl : i = D.length := by omega
    rw [List.take_length] at hj hjt
    have hjn : j < D.length := hji
    repeat with_reducible first | refine wp_seq ?_ | refine nThen ?_ | refine wp_exit ?_ | refine xThen ?_ | refine xHere ?_
    refine' region_ty 3 mixed (by kernel_rfl) hF ?_ ?_
    rotate_left
    · simp only [List.take_succ_cons, List.take_zero]
      repeat (first | exact Line.nil | ((refine' Line.cons rfl (.run rfl rfl ?_) ?_); (any_goals (first | exact cSliceLoEx rfl rfl rfl Tryz.underlying30 sizeS hjn hcap | exact cMove rfl rfl)); rotate_left))
    intro a w9 hF hb hN
    have hBs := hB.size
    replace hB := hB.trans (hb.mono hB.size)
    simp only [List.take_succ_cons, List.take_zero, List.drop_succ_cons, List.drop_zero] at hF hN ⊢
    dsimp only [ext, Option.getD] at hF
    refine tlClear (Δ := [(0, Ty.ex (.slice (some ⟨g, off, none⟩) D.length cap)), (5, Ty.ex (.int .i64 (j : Int)))]) (k := j) hF rfl rfl rfl rfl Tryz.underlying30 infoS zero32_size zeroS_one (hseg.below hB) (by omega) (hF.keep [0, 5]) rfl ?_
    intro w10 zs hzl hF hseg2 hk2
    refine wpList_nil ?_
    repeat with_reducible first | refine wp_seq ?_ | refine nThen ?_
    replace hKw : Keeps [g] w w10 := (hKw.trans (Keeps.of_below hB)).trans hk2
    have hB := Below.refl w10.heap.size w10
    refine' reg_all hF ?_ mixed (by kernel_rfl) ?_
    rotate_left
    · repeat (first | exact Line.nil | ((refine' Line.cons rfl (.run rfl rfl ?_) ?_); (any_goals (first | exact cSliceHiEx rfl rfl rfl Tryz.underlying30 sizeS (by omega) | exact cMove rfl rfl | exact cAssign rfl rfl)); rotate_left))
    intro a w11 hF hb hN
    have hBs := hB.size
    replace hB := hB.trans (hb.mono hB.size)
    dsimp only [ext, Option.getD] at hF
    repeat with_reducible first | refine nThen ?_ | refine wp_ret ?_
    refine ret1 hF rfl rfl fun z hz => ?_
    have hz : z = .slice (some ⟨g, off, none⟩) j cap := hz
    subst hz
    refine ⟨j, rfl, hj, ?_, hKw.trans (Keeps.of_below hB)⟩
    have h5 := (hseg2.below hB).take (k := j) (by omega)
    have h6 : (over (flat E) (j * 32) zs).take (j * 32) = flat (D.filter fun x => !p x) := by
      unfold over
      rw [List.append_assoc, List.take_append_of_le_length (by rw [List.length_take, flat_len]; omega), List.take_take, Nat.min_self, flat_take, hjt]
    rwa [h6] at h5
  have hlt : i < D.length := by have := of_decide_eq_true hlt; omega
  have hB8 := hB.size
  have hg8 : g < w8.heap.size := (hseg.below hB).lt
  have hsE : (Ty.sums 28 E).p w8 (.slice (some ⟨g, off, none⟩) D.length cap) := by
    have h := (hseg.below hB).sl
    rw [← hE] at h ⊢
    exact h
  have e1 : E.getD i default = D.getD i default := hsame i (Nat.le_refl _)
  repeat with_reducible first | refine wp_seq ?_ | refine nThen ?_ | refine wp_skip ?_ | refine wp_block ?_
  refine' region_ty 5 mixed (by kernel_rfl) hF ?_ ?_
  rotate_left
  · simp only [List.take_succ_cons, List.take_zero]
    repeat (first
        | exact Line.nil
        | (refine' Line.cons rfl (.new rfl rfl ((run_alloc_i infoS)) rfl) ?_; rotate_left)
        | ((refine' Line.cons rfl (.run rfl rfl ?_) ?_)
           any_goals (first | exact cIndexSum (k := i) rfl (.l rfl hsE) rfl Tryz.underlying30 sizeS (by omega) | exact cLoadSum rfl (.t rfl) Tryz.underlying28 sizeS | exact cMove rfl rfl)
           rotate_left))
  intro a w9 hF hb hN
  have hBs := hB.size
  replace hB := hB.trans (hb.mono hB.size)
  simp only [List.take_succ_cons, List.take_zero, List.drop_succ_cons, List.drop_zero] at hF hN ⊢
  dsimp only [ext, Option.getD] at hF
  rw [e1] at hF
  have hB8 : wr.heap.size ≤ w8.heap.size := hB8
  obtain ⟨z, ⟨gx, rfl, hgx, hbx⟩, hF⟩ := hF.open (s := 7) rfl
  have hgx : w8.heap.size ≤ gx := hgx
  refine tlStoreV (Δ := [(0, Ty.ex (.slice (some ⟨g, off, none⟩) D.length cap)), (1, Ty.ex (.func (.func f) #[] cb)), (5, Ty.ex (.int .i64 (j : Int))), (6, Ty.ex (.int .i64 (i : Int))), (7, Ty.ex (.pointer (some ⟨gx, 0, none⟩)))]) hF rfl rfl rfl rfl (hF.getEx (s := 25) rfl) hbx (by show (u8s _).size = (u8s _).size; rw [u8s_size, u8s_size, Sm.len]; rfl) (by show _ = some (u8s _).size; rw [u8s_size, Sm.len]; exact sizeS) (u8s_one _) (hF.keep [0, 1, 5, 6, 7]) rfl ?_
  intro w10 hF hbx hkx
  refine wpList_nil ?_
  repeat with_reducible first | refine wp_seq ?_ | refine nThen ?_
  have hseg := (hseg.below hB).keeps hkx (by simp; omega)
  replace hKw : Keeps [g] w w10 := (hKw.trans (Keeps.of_below hB)).trans' hkx (fun x hx => by simp only [List.mem_singleton] at hx; subst hx; exact .inr (Nat.le_trans (Nat.le_trans hKw.size hB8) hgx))
  have hp9 := hp.later hKw
  have hB := Below.refl w10.heap.size w10
  have hax : (Ty.at_ 28 (D.getD i default).enc).p w10 (.pointer (some ⟨gx, 0, none⟩)) := by
    have h := blk_at hbx
    rwa [show (Value.agg (u8s (D.getD i default).l)).cells.toList = (D.getD i default).enc from u8s_list _] at h
  refine' reg_all hF ?_ mixed (by kernel_rfl) ?_
  rotate_left
  · repeat (first | exact Line.nil | ((refine' Line.cons rfl (.run rfl rfl ?_) ?_); (any_goals (first | exact cLoadSum rfl (.l rfl hax) Tryz.underlying28 sizeS | exact cCallC1 rfl rfl rfl he (hp9.at_ (Keeps.of_below hB) _) | exact cMove rfl rfl | exact cNot rfl rfl)); rotate_left))
  intro a w11 hF hb hN
  have hBs := hB.size
  replace hB := hB.trans (hb.mono hB.size)
  dsimp only [ext, Option.getD] at hF
  repeat with_reducible refine nThen ?_
  refine cond_ty hF rfl (fun hc => ?_) (fun hc => ?_)
  · have hc : p (D.getD i default) = false := by simpa using hc
    have hdd2 := filt_snoc_in hlt hc
    have hax := (Ty.at_ 28 (D.getD i default).enc).below hax hB
    repeat with_reducible refine wp_seq ?_
    refine' region_ty 4 mixed (by kernel_rfl) hF ?_ ?_
    rotate_left
    · simp only [List.take_succ_cons, List.take_zero]
      repeat (first | exact Line.nil | ((refine' Line.cons rfl (.run rfl rfl ?_) ?_); (any_goals (first | exact cLoadSum rfl (.l rfl hax) Tryz.underlying28 sizeS | exact cIndexEx (k := j) rfl rfl rfl Tryz.underlying30 sizeS (by omega) | exact cMove rfl rfl)); rotate_left))
    intro a w12 hF hb hN
    have hBs := hB.size
    replace hB := hB.trans (hb.mono hB.size)
    simp only [List.take_succ_cons, List.take_zero, List.drop_succ_cons, List.drop_zero] at hF hN ⊢
    dsimp only [ext, Option.getD] at hF
    refine tlStoreAt (Δ := [(0, Ty.ex (.slice (some ⟨g, off, none⟩) D.length cap)), (1, Ty.ex (.func (.func f) #[] cb)), (5, Ty.ex (.int .i64 (j : Int))), (6, Ty.ex (.int .i64 (i : Int)))]) (k := j * 32) hF rfl rfl rfl rfl rfl (hseg.below hB) (by rw [u8s_size, Sm.len]; omega) (by rw [u8s_size, Sm.len]; exact sizeS) (u8s_one _) (hF.keep [0, 1, 5, 6]) rfl ?_
    intro w13 hF hseg2 hk2
    refine wpList_nil ?_
    repeat with_reducible refine nThen ?_
    replace hKw : Keeps [g] w w13 := (hKw.trans (Keeps.of_below hB)).trans hk2
    have hB := Below.refl w13.heap.size w13
    refine' reg_all hF ?_ mixed (by kernel_rfl) ?_
    rotate_left
    · repeat (first | exact Line.nil | ((refine' Line.cons rfl (.run rfl rfl ?_) ?_); (any_goals (first | exact cAdd (r := ((j + 1 : Nat) : Int)) rfl rfl rfl (by omega) | exact cMove rfl rfl | exact cAssign rfl rfl)); rotate_left))
    intro a w14 hF hb hN
    have hBs := hB.size
    replace hB := hB.trans (hb.mono hB.size)
    dsimp only [ext, Option.getD] at hF
    repeat with_reducible first | refine nThen ?_ | refine nBlk ?_
    refine' reg_all hF ?_ mixed (by kernel_rfl) ?_
    rotate_left
    · repeat (first | exact Line.nil | ((refine' Line.cons rfl (.run rfl rfl ?_) ?_); (any_goals (first | exact cAdd (r := ((i + 1 : Nat) : Int)) rfl rfl rfl (by omega) | exact cMove rfl rfl | exact cAssign rfl rfl)); rotate_left))
    intro a w15 hF hb hN
    have hBs := hB.size
    replace hB := hB.trans (hb.mono hB.size)
    dsimp only [ext, Option.getD] at hF
    repeat with_reducible refine nThen ?_
    have h7 : over (flat E) (j * 32) (u8s (D.getD i default).l).toList = flat (E.set j (D.getD i default)) := by
      rw [u8s_list]
      exact over_flat E _ (by omega)
    rw [h7] at hseg2
    refine ⟨m - 1, by omega, i + 1, j + 1, E.set j (D.getD i default), by omega, by simp [hE], ?_, by omega, ?_, fun q hq => ?_, hF.keep [0, 1, 5, 6], hseg2.below hB, hKw.trans (Keeps.of_below hB)⟩
    · rw [hdd2, List.length_append, ← hj]; rfl
    · rw [hdd2, ← hjt, take_snoc' _ (by rw [List.length_set]; omega), getD_set E _ (by omega), if_pos rfl, List.take_set_of_le (Nat.le_refl _)]
    · rw [getD_set E _ (by omega), if_neg (by omega)]
      exact hsame q (by omega)
  · have hc : p (D.getD i default) = true := by simpa using hc
    have hdd2 := filt_snoc_out hlt hc
    repeat with_reducible first | refine nThen ?_ | refine nBlk ?_ | refine wp_skip ?_
    refine' reg_all hF ?_ mixed (by kernel_rfl) ?_
    rotate_left
    · repeat (first | exact Line.nil | ((refine' Line.cons rfl (.run rfl rfl ?_) ?_); (any_goals (first | exact cAdd (r := ((i + 1 : Nat) : Int)) rfl rfl rfl (by omega) | exact cMove rfl rfl | exact cAssign rfl rfl)); rotate_left))
    intro a w12 hF hb hN
    have hBs := hB.size
    replace hB := hB.trans (hb.mono hB.size)
    dsimp only [ext, Option.getD] at hF
    repeat with_reducible refine nThen ?_
    exact ⟨m - 1, by omega, i + 1, j, E, by omega, hE, by rw [hdd2]; exact hj, by omega, by rw [hdd2]; exact hjt, fun q hq => hsame q (by omega), hF.keep [0, 1, 5, 6], hseg.below hB, hKw.trans (Keeps.of_below hB)⟩

set_option maxRecDepth 100000 in
theorem delete_none {f : FuncId} {cb : Array Value} {p : Sm → Bool} (he : Enters Tryz.prog f) (w : World) (hp : PredK Tryz.prog f cb [] w p) :
    Ret Tryz.prog 60 #[.slice none 0 0, .func (.func f) #[] cb] w (Ty.ex (.slice none 0 0)) := by
  generalize hfv : (Value.func (.func f) #[] cb) = fv
  refine enter_ty 42 [Ty.ex (.slice none 0 0), Ty.ex fv] Tryz.func60 rfl (by kernel_rfl) ⟨rfl, rfl, trivial⟩ fun a hF => ?_
  subst hfv
  have hB := Below.refl w.heap.size w
  repeat with_reducible refine wp_seq ?_
  refine' reg_all hF ?_ mixed (by kernel_rfl) ?_
  rotate_left
  · repeat (first | exact Line.nil | ((refine' Line.cons rfl (.run rfl rfl ?_) ?_); (any_goals exact cAssign rfl rfl); rotate_left))
  intro a w1 hF hb hN
  have hBs := hB.size
  replace hB := hB.trans (hb.mono hB.size)
  dsimp only [ext, Option.getD] at hF
  repeat with_reducible first | refine wp_seq ?_ | refine nThen ?_
  have hei : Enters Tryz.prog 93 := fun args w => by kernel_rfl
  have h0 : ∀ W : World, (Ty.sums 28 []).p W (.slice none 0 0) := fun W => (Seg.nil W 28 32).sl
  refine' reg_all hF ?_ mixed (by kernel_rfl) ?_
  rotate_left
  · repeat (first | exact Line.nil | ((refine' Line.cons rfl (.run rfl rfl ?_) ?_); (any_goals (first | exact cCallW2 rfl rfl rfl hei (fun W x y hb hx hy => by have hx : x = .slice none 0 0 := hx; have hy : y = .func (.func f) #[] cb := hy; subst hx hy; exact indexf_any he [] W _ (h0 W) (by simp) ((hp.later (Keeps.of_below hB)).later (Keeps.of_below hb)) (r := -1) (.inr ⟨rfl, fun j hj => by simp at hj⟩)) | exact cMove rfl rfl | exact cAssign rfl rfl)); rotate_left))
  intro a w2 hF hb hN
  have hBs := hB.size
  replace hB := hB.trans (hb.mono hB.size)
  dsimp only [ext, Option.getD] at hF
  repeat with_reducible first | refine wp_seq ?_ | refine nThen ?_
  refine' reg_all hF ?_ mixed (by kernel_rfl) ?_
  rotate_left
  · repeat (first | exact Line.nil | ((refine' Line.cons rfl (.run rfl rfl ?_) ?_); (any_goals (first | exact cMove rfl rfl | exact cEql rfl rfl rfl)); rotate_left))
  intro a w3 hF hb hN
  have hBs := hB.size
  replace hB := hB.trans (hb.mono hB.size)
  dsimp only [ext, Option.getD] at hF
  repeat with_reducible refine nThen ?_
  refine cond_t hF rfl ?_
  repeat with_reducible refine wp_seq ?_
  refine' reg_all hF ?_ mixed (by kernel_rfl) ?_
  rotate_left
  · repeat (first | exact Line.nil | ((refine' Line.cons rfl (.run rfl rfl ?_) ?_); (any_goals (first | exact cMove rfl rfl | exact cAssign rfl rfl)); rotate_left))
  intro a w4 hF hb hN
  have hBs := hB.size
  replace hB := hB.trans (hb.mono hB.size)
  dsimp only [ext, Option.getD] at hF
  repeat with_reducible first | refine nThen ?_ | refine wp_ret ?_ | refine rThen ?_
  refine ret1 hF rfl rfl fun z hz => ?_
  exact ⟨z, rfl, hz, hB⟩
end Go.Proofs.YtmefpnklgfhggaaGreatDoor

/- Layer 10: the walks of Minus, Both, Either, Add. -/
namespace Go.Proofs.YtmefpnklgfhggaaGreatDoor
open Go.RowKit

theorem infoSL : (Tryz.prog.info? 30).map (·.size) = some 1 := by kernel_rfl

abbrev pM (B : List Sm) (x : Sm) : Bool := decide (x ∈ B)
abbrev pB (B : List Sm) (x : Sm) : Bool := !decide (x ∈ B)
set_option maxRecDepth 100000 in
theorem minus1_ret (B : List Sm) (gb : Nat) (vb : Value) (W : World) (hs : srt B) (hBl : B.length ≤ 1000000) (hgb : Blk W gb 30 #[vb]) (hvb : (Ty.sums 28 B).p W vb) (x : Sm) :
    Ret Tryz.prog 61 (#[.agg (u8s x.l)] ++ #[.pointer (some ⟨gb, 0, none⟩)]) W (Ty.ex (.bool (pM B x))) := by
  have hh := hasI_ty B x hBl hs
  unfold pM
  generalize decide (x ∈ B) = r at *
  refine enter_ty 7 [Ty.ex (.agg (u8s x.l)), Ty.ex (.pointer (some ⟨gb, 0, none⟩))] Tryz.func61 rfl (by kernel_rfl) ⟨rfl, rfl, trivial⟩ fun a hF => ?_
  have hB := Below.refl W.heap.size W
  repeat with_reducible refine wp_seq ?_
  refine' reg_all hF ?_ mixed (by kernel_rfl) ?_
  rotate_left
  · repeat (first | exact Line.nil | ((refine' Line.cons rfl (.run rfl rfl ?_) ?_); (any_goals (first | exact cAssign rfl rfl | exact cBoxSum rfl rfl)); rotate_left))
  intro a w1 hF hb hN
  have hBs := hB.size
  replace hB := hB.trans (hb.mono hB.size)
  dsimp only [ext, Option.getD] at hF
  repeat with_reducible first | refine wp_seq ?_ | refine nThen ?_
  have hab : (Ty.at_ 30 [vb]).p w1 (.pointer (some ⟨gb, 0, none⟩)) := blk_at (hgb.below hB)
  have hvb1 : (Ty.sums 28 B).p w1 vb := (Ty.sums 28 B).below hvb hB
  refine' reg_all hF ?_ mixed (by kernel_rfl) ?_
  rotate_left
  · repeat (first | exact Line.nil | ((refine' Line.cons rfl (.run rfl rfl ?_) ?_); (any_goals (first | exact cAssign rfl rfl | exact cLoadSum rfl (.t rfl) Tryz.underlying28 sizeS | exact cLoad1 rfl (.l rfl hab) (pts_at _ _) Tryz.underlying30 rfl | exact cCallH2 rfl (.l rfl hvb1) (.t rfl) hh)); rotate_left))
  intro a w2 hF hb hN
  have hBs := hB.size
  replace hB := hB.trans (hb.mono hB.size)
  dsimp only [ext, Option.getD] at hF
  repeat with_reducible first | refine nThen ?_ | refine wp_ret ?_
  refine ret1 hF rfl rfl fun z hz => ?_
  exact ⟨z, rfl, hz, hB⟩

def minusL (A B : List Sm) : List Sm := (setL A).filter fun x => !pM (setL B) x
set_option maxRecDepth 100000 in
set_option maxHeartbeats 1000000 in
theorem minus_ty (A B : List Sm) (hA : A.length ≤ 1000000) (hBl : B.length ≤ 1000000) : FnSeg2 Tryz.prog 35 (Ty.sums 28 A) (Ty.sums 28 B) 28 32 (minusL A B).length (flat (minusL A B)) := by
  refine ⟨fun args w => by kernel_rfl, fun w v u hv hu => ?_⟩
  have hu' := hu
  obtain ⟨Au, cu, rfl, -⟩ := hu'
  refine enter_ty 11 [Ty.ex v, Ty.ex (.slice Au B.length cu)] Tryz.func35 rfl (by kernel_rfl) ⟨rfl, rfl, trivial⟩ fun a hF => ?_
  have hB := Below.refl w.heap.size w
  repeat with_reducible refine wp_seq ?_
  refine' reg_all hF ?_ mixed (by kernel_rfl) ?_
  rotate_left
  · repeat (first | exact Line.nil | ((refine' Line.cons rfl (.run rfl rfl ?_) ?_); (any_goals (first | exact cAssign rfl rfl | exact cBoxN rfl rfl)); rotate_left))
  intro a w1 hF hb hN
  have hBs := hB.size
  replace hB := hB.trans (hb.mono hB.size)
  dsimp only [ext, Option.getD] at hF
  repeat with_reducible first | refine wp_seq ?_ | refine nThen ?_
  obtain ⟨z, ⟨gb, rfl, hgb, hbb⟩, hF⟩ := hF.open (s := 3) rfl
  have hab := blk_at hbb
  have hbb0 := hbb
  refine' region_ty 2 mixed (by kernel_rfl) hF ?_ ?_
  rotate_left
  · simp only [List.take_succ_cons, List.take_zero]
    repeat (first | exact Line.nil | ((refine' Line.cons rfl (.run rfl rfl ?_) ?_); (any_goals (first | exact cLoad1 rfl (.l rfl hab) (pts_at _ _) Tryz.underlying30 rfl | exact cCallS1 rfl (.l rfl ((Ty.sums 28 B).below hu hB)) (of_ty B hBl))); rotate_left))
  intro a w2 hF hb hN
  have hBs := hB.size
  replace hB := hB.trans (hb.mono hB.size)
  simp only [List.take_succ_cons, List.take_zero, List.drop_succ_cons, List.drop_zero] at hF hN ⊢
  dsimp only [ext, Option.getD] at hF
  have hb0 := hb
  obtain ⟨vb, ⟨Sb, hsb, hSb⟩, hF⟩ := hF.open (s := 6) rfl
  obtain ⟨Ab, cb, hvb, -⟩ := hsb.form
  subst hvb
  refine tlStoreV (Δ := [(0, Ty.ex v), (3, Ty.ex (.pointer (some ⟨gb, 0, none⟩)))]) hF rfl rfl rfl rfl (hF.getEx (s := 6) rfl) (hbb.below hb) rfl infoSL (by simp [Value.cells, Value.oneCell']) (hF.keep [0, 3]) rfl ?_
  intro w3 hF hbb hkb
  refine wpList_nil ?_
  repeat with_reducible first | refine wp_seq ?_ | refine nThen ?_
  have hkw : Keeps [] w w3 := (Keeps.of_below (S := []) hB).trans' hkb (fun x hx => by simp only [List.mem_singleton] at hx; subst hx; exact .inr hgb)
  have hvb : (Ty.sums 28 (setL B)).p w3 (.slice Ab (setL B).length cb) := by
    refine (Ty.sums 28 (setL B)).st hsb.sl hkb ?_
    intro b hb _
    simp only [List.mem_singleton] at hb
    subst hb
    exact ⟨_, _, _, hbb0.below hb0, rfl⟩
  have hv3 := (Ty.sums 28 A).below hv hkw.below
  have hB3 := hkw.below.size
  have hB := Below.refl w3.heap.size w3
  refine' region_ty 3 mixed (by kernel_rfl) hF ?_ ?_
  rotate_left
  · simp only [List.take_succ_cons, List.take_zero]
    repeat (first | exact Line.nil | ((refine' Line.cons rfl (.run rfl rfl ?_) ?_); (any_goals (first | exact cMove rfl rfl | exact cCallS1 rfl (.l rfl hv3) (of_ty A hA) | exact cMakeFunc rfl rfl)); rotate_left))
  intro a w4 hF hb hN
  have hBs := hB.size
  replace hB := hB.trans (hb.mono hB.size)
  simp only [List.take_succ_cons, List.take_zero, List.drop_succ_cons, List.drop_zero] at hF hN ⊢
  dsimp only [ext, Option.getD] at hF
  obtain ⟨va, ⟨Sa, hsa, hSa⟩, hF⟩ := hF.open (s := 8) rfl
  have hen : Enters Tryz.prog 60 := fun args w => by kernel_rfl
  have heg : Enters Tryz.prog 61 := fun args w => by kernel_rfl
  have hlb := setL_len B
  have hpred : ∀ S : List Nat, (∀ y ∈ S, w3.heap.size ≤ y) → PredK Tryz.prog 61 #[.pointer (some ⟨gb, 0, none⟩)] S w4 (pM (setL B)) := fun S hS W x k => by
    have k' : Keeps [] w3 W := (Keeps.of_below (S := []) hB).trans' k fun y hy => .inr (hS y hy)
    exact minus1_ret (setL B) gb _ W (setL_srt B) (by omega) (hbb.below k'.below) ((Ty.sums 28 (setL B)).below hvb k'.below) x
  rcases hsa.cases with ⟨rfl, h0, h1, rfl⟩ | ⟨g, off, cap, rfl, rfl, hl⟩
  · refine tlCall rfl rfl rfl (args := #[.slice none 0 0, .func (.func 61) #[] #[.pointer (some ⟨gb, 0, none⟩)]]) ?_ hen (R := fun u w' => u = .slice none 0 0 ∧ Below w4.heap.size w4 w') ?_ ?_
    · simp only [List.map_toArray, List.map_cons, List.map_nil, hF.getEx (s := 8) rfl, hF.getEx (s := 9) rfl]
    · exact Calls.mono (delete_none heg w4 (hpred [] (by simp))) fun e w' ⟨u, a1, a2, a3⟩ => ⟨u, a1, a2, a3⟩
    rintro z w5 ⟨rfl, hb5⟩
    have hF := ((hF.keep []).below hb5).put (d := 10) (by decide) (Below.refl _ _) (V := Ty.ex (.slice none 0 0)) rfl
    replace hB := hB.trans (hb5.mono hB.size)
    refine' tlOp hF rfl rfl rfl ?_ ?_
    rotate_left
    · exact cAssign rfl rfl
    intro a w6 hF hb
    have hBs := hB.size
    replace hB := hB.trans (hb.mono hB.size)
    try (refine wpList_nil ?_)
    repeat with_reducible first | refine nThen ?_ | refine wp_ret ?_
    refine ret1 hF rfl rfl fun z hz => ?_
    have hz : z = .slice none 0 0 := hz
    subst hz
    have hA0 : minusL A B = [] := by
      unfold minusL
      rw [List.eq_nil_of_length_eq_zero h0]
      rfl
    rw [hA0]
    exact ⟨_, rfl, ⟨[], Seg.nil _ _ _, by simp⟩, hkw.below.trans (hB.mono hB3)⟩
  · have hg : w3.heap.size ≤ g := hSa g (by simp)
    refine tlCall rfl rfl rfl (args := #[.slice (some ⟨g, off, none⟩) (setL A).length cap, .func (.func 61) #[] #[.pointer (some ⟨gb, 0, none⟩)]]) ?_ hen (R := fun u w' => u = .slice (some ⟨g, off, none⟩) (minusL A B).length cap ∧ SegL w' 28 32 g off (minusL A B).length cap (flat (minusL A B)) ∧ Keeps [g] w4 w') ?_ ?_
    · simp only [List.map_toArray, List.map_cons, List.map_nil, hF.getEx (s := 8) rfl, hF.getEx (s := 9) rfl]
    · refine (delete_any heg (setL A) w4 g off cap hl (by have := setL_len A; omega) (hpred [g] (by simpa using hg))).mono fun e w' ⟨k, h1, h2, h3, h4⟩ => ?_
      subst h2
      exact ⟨_, h1, rfl, h3, h4⟩
    rintro z w5 ⟨rfl, hl5, hk5⟩
    have hF := ((hF.keep []).free1 hk5 hl rfl).put (d := 10) (by decide) (Below.refl _ _) (V := Ty.ex (.slice (some ⟨g, off, none⟩) (minusL A B).length cap)) rfl
    replace hB := below_own hB hk5 (by simpa using hg)
    refine' tlOp hF rfl rfl rfl ?_ ?_
    rotate_left
    · exact cAssign rfl rfl
    intro a w6 hF hb
    have hBs := hB.size
    replace hB := hB.trans (hb.mono hB.size)
    try (refine wpList_nil ?_)
    repeat with_reducible first | refine nThen ?_ | refine wp_ret ?_
    refine ret1 hF rfl rfl fun z hz => ?_
    have hz : z = .slice (some ⟨g, off, none⟩) (minusL A B).length cap := hz
    subst hz
    exact ⟨_, rfl, ⟨[g], (hl5.below hb).seg, by simp; exact Nat.le_trans hkw.size hg⟩, hkw.below.trans (hB.mono hB3)⟩
set_option maxRecDepth 100000 in
theorem both1_ret (B : List Sm) (gb : Nat) (vb : Value) (W : World) (hs : srt B) (hBl : B.length ≤ 1000000) (hgb : Blk W gb 30 #[vb]) (hvb : (Ty.sums 28 B).p W vb) (x : Sm) :
    Ret Tryz.prog 108 (#[.agg (u8s x.l)] ++ #[.pointer (some ⟨gb, 0, none⟩)]) W (Ty.ex (.bool (pB B x))) := by
  have hh := hasI_ty B x hBl hs
  unfold pB
  generalize decide (x ∈ B) = r at *
  refine enter_ty 8 [Ty.ex (.agg (u8s x.l)), Ty.ex (.pointer (some ⟨gb, 0, none⟩))] Tryz.func108 rfl (by kernel_rfl) ⟨rfl, rfl, trivial⟩ fun a hF => ?_
  have hB := Below.refl W.heap.size W
  repeat with_reducible refine wp_seq ?_
  refine' reg_all hF ?_ mixed (by kernel_rfl) ?_
  rotate_left
  · repeat (first | exact Line.nil | ((refine' Line.cons rfl (.run rfl rfl ?_) ?_); (any_goals (first | exact cAssign rfl rfl | exact cBoxSum rfl rfl)); rotate_left))
  intro a w1 hF hb hN
  have hBs := hB.size
  replace hB := hB.trans (hb.mono hB.size)
  dsimp only [ext, Option.getD] at hF
  repeat with_reducible first | refine wp_seq ?_ | refine nThen ?_
  have hab : (Ty.at_ 30 [vb]).p w1 (.pointer (some ⟨gb, 0, none⟩)) := blk_at (hgb.below hB)
  have hvb1 : (Ty.sums 28 B).p w1 vb := (Ty.sums 28 B).below hvb hB
  refine' reg_all hF ?_ mixed (by kernel_rfl) ?_
  rotate_left
  · repeat (first | exact Line.nil | ((refine' Line.cons rfl (.run rfl rfl ?_) ?_); (any_goals (first | exact cAssign rfl rfl | exact cNot rfl rfl | exact cLoadSum rfl (.t rfl) Tryz.underlying28 sizeS | exact cLoad1 rfl (.l rfl hab) (pts_at _ _) Tryz.underlying30 rfl | exact cCallH2 rfl (.l rfl hvb1) (.t rfl) hh)); rotate_left))
  intro a w2 hF hb hN
  have hBs := hB.size
  replace hB := hB.trans (hb.mono hB.size)
  dsimp only [ext, Option.getD] at hF
  repeat with_reducible first | refine nThen ?_ | refine wp_ret ?_
  refine ret1 hF rfl rfl fun z hz => ?_
  exact ⟨z, rfl, hz, hB⟩

def bothL (A B : List Sm) : List Sm := (setL A).filter fun x => !pB (setL B) x
set_option maxRecDepth 100000 in
set_option maxHeartbeats 1000000 in
theorem both_ty (A B : List Sm) (hA : A.length ≤ 1000000) (hBl : B.length ≤ 1000000) : FnSeg2 Tryz.prog 73 (Ty.sums 28 A) (Ty.sums 28 B) 28 32 (bothL A B).length (flat (bothL A B)) := by
  refine ⟨fun args w => by kernel_rfl, fun w v u hv hu => ?_⟩
  have hu' := hu
  obtain ⟨Au, cu, rfl, -⟩ := hu'
  refine enter_ty 11 [Ty.ex v, Ty.ex (.slice Au B.length cu)] Tryz.func73 rfl (by kernel_rfl) ⟨rfl, rfl, trivial⟩ fun a hF => ?_
  have hB := Below.refl w.heap.size w
  repeat with_reducible refine wp_seq ?_
  refine' reg_all hF ?_ mixed (by kernel_rfl) ?_
  rotate_left
  · repeat (first | exact Line.nil | ((refine' Line.cons rfl (.run rfl rfl ?_) ?_); (any_goals (first | exact cAssign rfl rfl | exact cBoxN rfl rfl)); rotate_left))
  intro a w1 hF hb hN
  have hBs := hB.size
  replace hB := hB.trans (hb.mono hB.size)
  dsimp only [ext, Option.getD] at hF
  repeat with_reducible first | refine wp_seq ?_ | refine nThen ?_
  obtain ⟨z, ⟨gb, rfl, hgb, hbb⟩, hF⟩ := hF.open (s := 3) rfl
  have hab := blk_at hbb
  have hbb0 := hbb
  refine' region_ty 2 mixed (by kernel_rfl) hF ?_ ?_
  rotate_left
  · simp only [List.take_succ_cons, List.take_zero]
    repeat (first | exact Line.nil | ((refine' Line.cons rfl (.run rfl rfl ?_) ?_); (any_goals (first | exact cLoad1 rfl (.l rfl hab) (pts_at _ _) Tryz.underlying30 rfl | exact cCallS1 rfl (.l rfl ((Ty.sums 28 B).below hu hB)) (of_ty B hBl))); rotate_left))
  intro a w2 hF hb hN
  have hBs := hB.size
  replace hB := hB.trans (hb.mono hB.size)
  simp only [List.take_succ_cons, List.take_zero, List.drop_succ_cons, List.drop_zero] at hF hN ⊢
  dsimp only [ext, Option.getD] at hF
  have hb0 := hb
  obtain ⟨vb, ⟨Sb, hsb, hSb⟩, hF⟩ := hF.open (s := 6) rfl
  obtain ⟨Ab, cb, hvb, -⟩ := hsb.form
  subst hvb
  refine tlStoreV (Δ := [(0, Ty.ex v), (3, Ty.ex (.pointer (some ⟨gb, 0, none⟩)))]) hF rfl rfl rfl rfl (hF.getEx (s := 6) rfl) (hbb.below hb) rfl infoSL (by simp [Value.cells, Value.oneCell']) (hF.keep [0, 3]) rfl ?_
  intro w3 hF hbb hkb
  refine wpList_nil ?_
  repeat with_reducible first | refine wp_seq ?_ | refine nThen ?_
  have hkw : Keeps [] w w3 := (Keeps.of_below (S := []) hB).trans' hkb (fun x hx => by simp only [List.mem_singleton] at hx; subst hx; exact .inr hgb)
  have hvb : (Ty.sums 28 (setL B)).p w3 (.slice Ab (setL B).length cb) := by
    refine (Ty.sums 28 (setL B)).st hsb.sl hkb ?_
    intro b hb _
    simp only [List.mem_singleton] at hb
    subst hb
    exact ⟨_, _, _, hbb0.below hb0, rfl⟩
  have hv3 := (Ty.sums 28 A).below hv hkw.below
  have hB3 := hkw.below.size
  have hB := Below.refl w3.heap.size w3
  refine' region_ty 3 mixed (by kernel_rfl) hF ?_ ?_
  rotate_left
  · simp only [List.take_succ_cons, List.take_zero]
    repeat (first | exact Line.nil | ((refine' Line.cons rfl (.run rfl rfl ?_) ?_); (any_goals (first | exact cMove rfl rfl | exact cCallS1 rfl (.l rfl hv3) (of_ty A hA) | exact cMakeFunc rfl rfl)); rotate_left))
  intro a w4 hF hb hN
  have hBs := hB.size
  replace hB := hB.trans (hb.mono hB.size)
  simp only [List.take_succ_cons, List.take_zero, List.drop_succ_cons, List.drop_zero] at hF hN ⊢
  dsimp only [ext, Option.getD] at hF
  obtain ⟨va, ⟨Sa, hsa, hSa⟩, hF⟩ := hF.open (s := 8) rfl
  have hen : Enters Tryz.prog 60 := fun args w => by kernel_rfl
  have heg : Enters Tryz.prog 108 := fun args w => by kernel_rfl
  have hlb := setL_len B
  have hpred : ∀ S : List Nat, (∀ y ∈ S, w3.heap.size ≤ y) → PredK Tryz.prog 108 #[.pointer (some ⟨gb, 0, none⟩)] S w4 (pB (setL B)) := fun S hS W x k => by
    have k' : Keeps [] w3 W := (Keeps.of_below (S := []) hB).trans' k fun y hy => .inr (hS y hy)
    exact both1_ret (setL B) gb _ W (setL_srt B) (by omega) (hbb.below k'.below) ((Ty.sums 28 (setL B)).below hvb k'.below) x
  rcases hsa.cases with ⟨rfl, h0, h1, rfl⟩ | ⟨g, off, cap, rfl, rfl, hl⟩
  · refine tlCall rfl rfl rfl (args := #[.slice none 0 0, .func (.func 108) #[] #[.pointer (some ⟨gb, 0, none⟩)]]) ?_ hen (R := fun u w' => u = .slice none 0 0 ∧ Below w4.heap.size w4 w') ?_ ?_
    · simp only [List.map_toArray, List.map_cons, List.map_nil, hF.getEx (s := 8) rfl, hF.getEx (s := 9) rfl]
    · exact Calls.mono (delete_none heg w4 (hpred [] (by simp))) fun e w' ⟨u, a1, a2, a3⟩ => ⟨u, a1, a2, a3⟩
    rintro z w5 ⟨rfl, hb5⟩
    have hF := ((hF.keep []).below hb5).put (d := 10) (by decide) (Below.refl _ _) (V := Ty.ex (.slice none 0 0)) rfl
    replace hB := hB.trans (hb5.mono hB.size)
    refine' tlOp hF rfl rfl rfl ?_ ?_
    rotate_left
    · exact cAssign rfl rfl
    intro a w6 hF hb
    have hBs := hB.size
    replace hB := hB.trans (hb.mono hB.size)
    try (refine wpList_nil ?_)
    repeat with_reducible first | refine nThen ?_ | refine wp_ret ?_
    refine ret1 hF rfl rfl fun z hz => ?_
    have hz : z = .slice none 0 0 := hz
    subst hz
    have hA0 : bothL A B = [] := by
      unfold bothL
      rw [List.eq_nil_of_length_eq_zero h0]
      rfl
    rw [hA0]
    exact ⟨_, rfl, ⟨[], Seg.nil _ _ _, by simp⟩, hkw.below.trans (hB.mono hB3)⟩
  · have hg : w3.heap.size ≤ g := hSa g (by simp)
    refine tlCall rfl rfl rfl (args := #[.slice (some ⟨g, off, none⟩) (setL A).length cap, .func (.func 108) #[] #[.pointer (some ⟨gb, 0, none⟩)]]) ?_ hen (R := fun u w' => u = .slice (some ⟨g, off, none⟩) (bothL A B).length cap ∧ SegL w' 28 32 g off (bothL A B).length cap (flat (bothL A B)) ∧ Keeps [g] w4 w') ?_ ?_
    · simp only [List.map_toArray, List.map_cons, List.map_nil, hF.getEx (s := 8) rfl, hF.getEx (s := 9) rfl]
    · refine (delete_any heg (setL A) w4 g off cap hl (by have := setL_len A; omega) (hpred [g] (by simpa using hg))).mono fun e w' ⟨k, h1, h2, h3, h4⟩ => ?_
      subst h2
      exact ⟨_, h1, rfl, h3, h4⟩
    rintro z w5 ⟨rfl, hl5, hk5⟩
    have hF := ((hF.keep []).free1 hk5 hl rfl).put (d := 10) (by decide) (Below.refl _ _) (V := Ty.ex (.slice (some ⟨g, off, none⟩) (bothL A B).length cap)) rfl
    replace hB := below_own hB hk5 (by simpa using hg)
    refine' tlOp hF rfl rfl rfl ?_ ?_
    rotate_left
    · exact cAssign rfl rfl
    intro a w6 hF hb
    have hBs := hB.size
    replace hB := hB.trans (hb.mono hB.size)
    try (refine wpList_nil ?_)
    repeat with_reducible first | refine nThen ?_ | refine wp_ret ?_
    refine ret1 hF rfl rfl fun z hz => ?_
    have hz : z = .slice (some ⟨g, off, none⟩) (bothL A B).length cap := hz
    subst hz
    exact ⟨_, rfl, ⟨[g], (hl5.below hb).seg, by simp; exact Nat.le_trans hkw.size hg⟩, hkw.below.trans (hB.mono hB3)⟩

set_option maxRecDepth 100000 in
theorem either_ty (A B : List Sm) (hA : A.length ≤ 400000) (hBl : B.length ≤ 400000) : FnSeg2 Tryz.prog 34 (Ty.sums 28 A) (Ty.sums 28 B) 28 32 (setL (A ++ B)).length (flat (setL (A ++ B))) := by
  refine ⟨fun args w => by kernel_rfl, fun w v u hv hu => ?_⟩
  have hab : [A, B].flatten = A ++ B := by simp
  have hc := concat_ty [A, B] (by rw [hab, List.length_append]; omega) (by simp)
  rw [hab] at hc
  have ho := of_ty (A ++ B) (by rw [List.length_append]; omega)
  have hi1 : (Tryz.prog.info? 30).map (fun i => (i.zero, i.size, i.bytes)) = some (some (.slice none 0 0), 1, 24) := by kernel_rfl
  refine enter_ty 10 [Ty.ex v, Ty.ex u] Tryz.func34 rfl (by kernel_rfl) ⟨rfl, rfl, trivial⟩ fun a hF => ?_
  have hB := Below.refl w.heap.size w
  repeat with_reducible first | refine wp_seq ?_ | refine nThen ?_ | refine wp_ret ?_
  refine' reg_all hF ?_ mixed (by kernel_rfl) ?_
  rotate_left
  · repeat (first
        | exact Line.nil
        | ((refine' Line.cons rfl (.run rfl rfl ?_) ?_)
           any_goals (first | exact cMove rfl rfl | exact cAssign rfl rfl)
           rotate_left))
  intro a w1 hF hb hN
  have hBs := hB.size
  replace hB := hB.trans (hb.mono hB.size)
  dsimp only [ext, Option.getD] at hF
  repeat with_reducible first | refine wp_seq ?_ | refine nThen ?_ | refine wp_ret ?_
  have hv1 := (Ty.sums 28 A).below hv hB
  have hu1 := (Ty.sums 28 B).below hu hB
  refine' reg_all hF ?_ mixed (by kernel_rfl) ?_
  rotate_left
  · repeat (first
        | exact Line.nil
        | ((refine' Line.cons rfl (.run rfl rfl ?_) ?_)
           any_goals (first | exact cMove rfl rfl | exact cAssign rfl rfl | exact cBuildT (τs := [Ty.sums 28 A, Ty.sums 28 B]) rfl (partsT2 rfl (.l rfl hv1) (.l rfl hu1) (Ty.sl_isSl _ _ _) (Ty.sl_isSl _ _ _)) Tryz.underlying103 hi1 rfl | exact cCallS1 rfl (.t rfl) hc | exact cCallS1 rfl (Has.c (.t rfl) seg_sl) ho)
           rotate_left))
  intro a w2 hF hb hN
  have hBs := hB.size
  replace hB := hB.trans (hb.mono hB.size)
  dsimp only [ext, Option.getD] at hF
  repeat with_reducible first | refine wp_seq ?_ | refine nThen ?_ | refine wp_ret ?_
  refine ret1 hF rfl rfl fun z hz => ?_
  exact ⟨z, rfl, seg_old hBs _ _ hz, hB⟩
end Go.Proofs.YtmefpnklgfhggaaGreatDoor

/- Layer 10: the example that all statements tell; the walks of SetParts, SetLaws. -/
namespace Go.Proofs.YtmefpnklgfhggaaGreatDoor
open Go.RowKit

theorem minusL_mem {A B : List Sm} {x : Sm} : x ∈ minusL A B ↔ x ∈ A ∧ x ∉ B := by
  unfold minusL pM
  rw [List.mem_filter, setL_mem]
  simp [setL_mem]
theorem bothL_mem {A B : List Sm} {x : Sm} : x ∈ bothL A B ↔ x ∈ A ∧ x ∈ B := by
  unfold bothL pB
  rw [List.mem_filter, setL_mem]
  simp [setL_mem]
theorem minusL_srt (A B : List Sm) : srt (minusL A B) := srt_filter (setL_srt A) _
theorem minusL_len (A B : List Sm) : (minusL A B).length ≤ A.length := Nat.le_trans (List.length_filter_le _ _) (setL_len A)
theorem sameL_true {L M : List Sm} (hs : srt L) (hl : L.length ≤ 512) (h : L = M) : sameL L M = true := by
  subst h
  unfold sameL
  rw [goodL_srt hs, decide_eq_true hl]
  simp

abbrev s1 : Sm := sm1 1 (by decide)
abbrev s2 : Sm := sm1 2 (by decide)
theorem build_s1 (w : World) : (Instr.build 28 #[(0, .int .u8 1)]).run Tryz.prog w = .ok (.agg (u8s s1.l)) w := by kernel_rfl
theorem build_s2 (w : World) : (Instr.build 28 #[(0, .int .u8 2)]).run Tryz.prog w = .ok (.agg (u8s s2.l)) w := by kernel_rfl
theorem s12 : srt [s1, s2] := List.pairwise_cons.2 ⟨fun y hy => by simp only [List.mem_singleton] at hy; subst hy; decide, List.pairwise_singleton _ _⟩
theorem s_one (x : Sm) : srt [x] := List.pairwise_singleton _ _
end Go.Proofs.YtmefpnklgfhggaaGreatDoor

/- Layer 15, plainly: how many a table tells; the order in which sums are put in; one table less another. -/
namespace Go.Proofs.YtmefpnklgfhggaaGreatDoor
open Go.RowKit

/-! ### The count -/
def sumC (L : List Cl) : Int := (L.map Cl.n).sum
theorem foldC (L : List Cl) : ∀ a : Int, wrap64 (L.foldl (fun n c => wrap64 (n + c.n)) a) = wrap64 (a + sumC L) := by
  unfold sumC
  induction L with
  | nil => intro a; simp
  | cons c L ih =>
    intro a
    rw [List.foldl_cons, ih, wrap64_addl, List.map_cons, List.sum_cons, Int.add_assoc]
theorem foldC_w (L : List Cl) : ∀ a : Int, wrap64 a = a → wrap64 (L.foldl (fun n c => wrap64 (n + c.n)) a) = L.foldl (fun n c => wrap64 (n + c.n)) a := by
  induction L with
  | nil => intro a h; exact h
  | cons c L ih => intro a _; rw [List.foldl_cons]; exact ih _ (wrap64_idem _)
theorem tcount_sum (L : List Cl) : tcount L = wrap64 (sumC (L.take (L.length / 3))) := by
  unfold tcount
  rw [← foldC_w _ 0 (w64_in (by omega)), foldC, Int.zero_add]
theorem sumC_set : ∀ (L : List Cl) (i : Nat) (c : Cl), i < L.length → sumC (L.set i c) = sumC L - (L.getD i default).n + c.n
  | [], i, c, h => by simp at h
  | d :: L, 0, c, _ => by
    simp only [sumC, List.set_cons_zero, List.map_cons, List.sum_cons, List.getD_cons_zero]
    omega
  | d :: L, i + 1, c, h => by
    have := sumC_set L i c (by simpa using h)
    simp only [sumC, List.set_cons_succ, List.map_cons, List.sum_cons, List.getD_cons_succ] at this ⊢
    omega
theorem take_at_lo (L : List Cl) {i p : Nat} (h : i < p) (x : Sm) (n : Int) : (tputAt L i x n).take p = tputAt (L.take p) i x n := by
  unfold tputAt
  rw [List.take_set, getD_take h]
theorem take_at_hi (L : List Cl) {i p : Nat} (h : p ≤ i) (x : Sm) (n : Int) : (tputAt L i x n).take p = L.take p := by
  unfold tputAt
  rw [List.take_set, List.set_eq_of_length_le (by rw [List.length_take]; omega)]
theorem sumC_at (L : List Cl) {i : Nat} (h : i < L.length) (x : Sm) (n : Int) : wrap64 (sumC (tputAt L i x n)) = wrap64 (sumC L + n) := by
  unfold tputAt
  rw [sumC_set L i _ h]
  generalize L.getD i default = c
  show wrap64 (sumC L - c.n + wrap64 (c.n + n)) = _
  rw [wrap64_addr]
  congr 1
  omega
theorem tcount_put {seed : Nat} {L : List Cl} (hg : goodN (L.length : Int) = true) (x : Sm) (n : Int) : tcount (tput seed L x n) = wrap64 (tcount L + n) := by
  have hr := of_decide_eq_true hg
  rw [tcount_sum, tcount_sum, tput_len]
  unfold tput placesN
  rw [if_pos hg, Int.toNat_natCast]
  have hp : 0 < L.length / 3 := by omega
  obtain ⟨p, hpe⟩ : ∃ p, p = L.length / 3 := ⟨_, rfl⟩
  rw [← hpe] at hp ⊢
  generalize placeS seed x = s
  have e : plc s p 3 = [0 * p + wordF s.l 0 8 % p, 1 * p + wordF s.l 1 8 % p, 2 * p + wordF s.l 2 8 % p] := rfl
  have h0 := Nat.mod_lt (wordF s.l 0 8) hp
  rw [e]
  simp only [List.foldl_cons, List.foldl_nil]
  rw [take_at_hi _ (by omega), take_at_hi _ (by omega), take_at_lo _ (by omega), sumC_at _ (by rw [List.length_take]; omega), wrap64_addl]
theorem tcount_w (L : List Cl) : wrap64 (tcount L) = tcount L := by rw [tcount_sum, wrap64_idem]
theorem tcount_all {seed : Nat} (n : Int) : ∀ (xs : List Sm) (L : List Cl), goodN (L.length : Int) = true → tcount (tall seed L xs n) = wrap64 (tcount L + n * xs.length)
  | [], L, _ => by
    show tcount L = _
    rw [List.length_nil, show tcount L + n * ((0 : Nat) : Int) = tcount L by simp, tcount_w]
  | x :: xs, L, hg => by
    show tcount (tall seed (tput seed L x n) xs n) = _
    rw [tcount_all n xs _ (by rw [tput_len]; exact hg), tcount_put hg, wrap64_addl, List.length_cons, Int.natCast_add, Int.mul_add]
    congr 1
    omega
theorem sumC_zero (n : Nat) : sumC (tzero n) = 0 := by
  unfold sumC tzero
  rw [List.map_replicate, show Cl.zero.n = 0 from rfl]
  induction n with
  | zero => rfl
  | succ n ih => rw [List.replicate_succ, List.sum_cons, ih]; rfl
theorem tcount_zero (n : Nat) : tcount (tzero n) = 0 := by
  rw [tcount_sum, tzero_len]
  have : (tzero n).take (n / 3) = tzero (n / 3) := by
    unfold tzero
    rw [List.take_replicate, Nat.min_eq_left (Nat.div_le_self n 3)]
  rw [this, sumC_zero]
  exact w64_in (by omega)
theorem ofL_len {seed : Nat} {n : Int} {D : List Sm} (hg : goodN n = true) : (ofL seed n D).length = n.toNat := by
  unfold ofL
  rw [if_pos hg, tall_len, tzero_len]
theorem ofL_good {seed : Nat} {n : Int} {D : List Sm} (hg : goodN n = true) : goodN ((ofL seed n D).length : Int) = true := by
  rw [ofL_len hg]
  have := of_decide_eq_true hg
  rwa [Int.toNat_of_nonneg (by omega)]
/-! ### A table less itself -/
theorem tminus_self (A : List Cl) : allZ (tminus A A) = true := allZ_all fun k hk => by
  rw [tminus_len rfl] at hk
  rw [tminus_get rfl hk, minus_self]
theorem allZ_eq {L : List Cl} (h : allZ L = true) : L = tzero L.length := list_extD (by rw [tzero_len]) fun j hj => by
  rw [allZ_iff.1 h j hj, tzero_get hj]
theorem allZ_tzero (n : Nat) : allZ (tzero n) = true := allZ_all fun k hk => by
  rw [tzero_len] at hk
  exact tzero_get hk
/-! ### Whatever order -/
theorem tall_back {seed : Nat} {n m : Int} (hnm : n + m = 0) (xs : List Sm) {L : List Cl} (h : NormT L) : tall seed (tall seed L xs n) xs m = L := by
  apply list_extD
  · rw [tall_len, tall_len]
  · intro j hj
    rw [tall_len, tall_len] at hj
    rw [tall_get _ _ _ _ (by rw [tall_len]; exact hj), tall_get _ _ _ _ hj, tall_len]
    exact putAll_back hnm _ _ (h j hj)

/-! ### One less another -/
theorem filter_parts (p : Sm → Bool) : ∀ L : List Sm, L.Perm (L.filter p ++ L.filter fun x => !p x)
  | [] => List.Perm.refl _
  | x :: L => by
    have ih := filter_parts p L
    by_cases h : p x = true
    · rw [List.filter_cons_of_pos h, List.filter_cons_of_neg (by simp [h])]
      exact ih.cons x
    · rw [List.filter_cons_of_neg h, List.filter_cons_of_pos (by simp [h])]
      exact (ih.cons x).trans List.perm_middle.symm
/-- Two heaps less one another are what each has more, less one another. -/
theorem putAll_less (c : Cl) {P Q R M K : List Sm} (hP : P.Perm (R ++ M)) (hQ : Q.Perm (R ++ K)) : (putAll 1 c P).minus (putAll 1 c Q) = (putAll 1 c M).minus (putAll 1 c K) := by
  rw [putAll_perm hP, putAll_perm hQ]
  rw [minus_putAll (m := -1) (by decide), minus_putAll (m := -1) (by decide), putAll_minus, putAll_minus]
  rw [putAll_append, putAll_append]
  congr 1
  rw [putAll_swap 1 (-1) R M, putAll_back (by decide) R _ (minus_norm c c)]
theorem setless {A B : List Sm} : (setL A).Perm ((setL A).filter (fun x => decide (x ∈ B)) ++ minusL A B) := by
  have := filter_parts (fun x => decide (x ∈ B)) (setL A)
  have e : minusL A B = (setL A).filter fun x => !decide (x ∈ B) := by
    unfold minusL pM
    apply List.filter_congr
    intro x _
    simp [setL_mem]
  rw [e]
  exact this
end Go.Proofs.YtmefpnklgfhggaaGreatDoor

/- Peeling, plainly: the first cell that tells a sum which belongs there; taken out, and so on. -/
namespace Go.Proofs.YtmefpnklgfhggaaGreatDoor
open Go.RowKit

/-- Cell j tells a sum that belongs there. -/
def pureAt (seed : Nat) (L : List Cl) (j : Nat) : Bool := (L.getD j default).ok && isAt seed L.length j (L.getD j default).key
/-- The first such; the table's length if there is none. -/
def firstP (p : Nat → Bool) : Nat → Nat → Nat
  | _, 0 => 0
  | j, k + 1 => if p j then 0 else firstP p (j + 1) k + 1
def nextI (seed : Nat) (L : List Cl) : Nat := firstP (pureAt seed L) 0 L.length
theorem firstP_le (p : Nat → Bool) : ∀ (k j : Nat), firstP p j k ≤ k
  | 0, _ => Nat.le_refl _
  | k + 1, j => by
    unfold firstP
    split
    · omega
    · have := firstP_le p k (j + 1); omega
theorem firstP_at (p : Nat → Bool) : ∀ (k j : Nat), firstP p j k < k → p (j + firstP p j k) = true
  | 0, _, h => by unfold firstP at h; omega
  | k + 1, j, h => by
    unfold firstP at h ⊢
    split
    · rename_i hp; simpa using hp
    · rename_i hp
      rw [if_neg hp] at h
      have := firstP_at p k (j + 1) (by omega)
      rwa [show j + 1 + firstP p (j + 1) k = j + (firstP p (j + 1) k + 1) by omega] at this
theorem firstP_no (p : Nat → Bool) : ∀ (k j i : Nat), i < firstP p j k → p (j + i) = false
  | 0, _, i, h => by unfold firstP at h; omega
  | k + 1, j, i, h => by
    unfold firstP at h
    split at h
    · omega
    · rename_i hp
      cases i with
      | zero => simpa using hp
      | succ i =>
        have := firstP_no p k (j + 1) i (by omega)
        rwa [show j + 1 + i = j + (i + 1) by omega] at this
theorem firstP_all (p : Nat → Bool) {k : Nat} (h : firstP p 0 k = k) : ∀ i, i < k → p i = false := fun i hi => by
  have := firstP_no p k 0 i (by omega)
  simpa using this
/-- The peeler's state. -/
structure Pst where
  L : List Cl
  plus : List Sm
  minus : List Sm
  once : Bool
/-- One sum taken out of cell i. -/
def Pst.take (seed : Nat) (s : Pst) (i : Nat) : Pst :=
  let c := s.L.getD i default
  let new := !(decide (c.key ∈ s.plus) || decide (c.key ∈ s.minus))
  if c.n = 1 then ⟨tput seed s.L c.key (-1), s.plus ++ [c.key], s.minus, s.once && new⟩ else ⟨tput seed s.L c.key 1, s.plus, s.minus ++ [c.key], s.once && new⟩
/-- At most m sums are taken out. -/
def Pst.run (seed : Nat) : Nat → Pst → Pst
  | 0, s => s
  | m + 1, s => if nextI seed s.L < s.L.length then Pst.run seed m (s.take seed (nextI seed s.L)) else s
def peelS (seed : Nat) (L : List Cl) : Pst := Pst.run seed 1025 ⟨L, [], [], true⟩
def Pst.fine (s : Pst) : Bool := s.once && allZ s.L
theorem Pst.take_len (seed : Nat) (s : Pst) (i : Nat) : (s.take seed i).L.length = s.L.length := by
  unfold Pst.take
  dsimp only
  split <;> exact tput_len _ _ _ _
theorem Pst.run_len (seed : Nat) : ∀ (m : Nat) (s : Pst), (Pst.run seed m s).L.length = s.L.length
  | 0, _ => rfl
  | m + 1, s => by
    unfold Pst.run
    split
    · rw [Pst.run_len seed m, Pst.take_len]
    · rfl
/-- What a state stands for: what is left, with what was taken out put in again. -/
def Pst.whole (seed : Nat) (s : Pst) : List Cl := tall seed (tall seed s.L s.plus 1) s.minus (-1)
theorem tall_swap (seed : Nat) (n m : Int) (xs ys : List Sm) (L : List Cl) : tall seed (tall seed L xs n) ys m = tall seed (tall seed L ys m) xs n := by
  apply list_extD
  · simp only [tall_len]
  · intro j hj
    simp only [tall_len] at hj
    rw [tall_get _ _ _ _ (by rw [tall_len]; exact hj), tall_get _ _ _ _ hj, tall_get _ _ _ _ (by rw [tall_len]; exact hj), tall_get _ _ _ _ hj, tall_len, tall_len]
    exact putAll_swap n m _ _ _
theorem tput_back {seed : Nat} {n m : Int} (hnm : n + m = 0) (x : Sm) {L : List Cl} (h : NormT L) : tput seed (tput seed L x n) x m = L := tall_back hnm [x] h
theorem tall_put (seed : Nat) (n m : Int) (x : Sm) (xs : List Sm) (L : List Cl) : tall seed (tput seed L x m) xs n = tput seed (tall seed L xs n) x m := tall_swap seed m n [x] xs L
theorem Pst.take_norm {seed : Nat} {s : Pst} (i : Nat) (h : NormT s.L) : NormT (s.take seed i).L := by
  unfold Pst.take
  dsimp only
  split <;> exact tput_norm _ h
theorem Pst.take_whole {seed : Nat} {s : Pst} (i : Nat) (h : NormT s.L) : (s.take seed i).whole seed = s.whole seed := by
  unfold Pst.take
  dsimp only
  generalize (s.L.getD i default).key = x
  split
  · unfold Pst.whole
    dsimp only
    rw [tall_snoc, tall_put seed 1 (-1) x s.plus s.L, tput_back (n := -1) (m := 1) (by decide) x (tall_norm _ h)]
  · unfold Pst.whole
    dsimp only
    rw [tall_snoc, tall_put seed 1 1 x s.plus s.L, tall_put seed (-1) 1 x s.minus _, tput_back (n := 1) (m := -1) (by decide) x (tall_norm _ (tall_norm _ h))]
theorem Pst.run_whole {seed : Nat} : ∀ (m : Nat) {s : Pst}, NormT s.L → (Pst.run seed m s).whole seed = s.whole seed
  | 0, _, _ => rfl
  | m + 1, s, h => by
    unfold Pst.run
    split
    · rw [Pst.run_whole m (Pst.take_norm _ h), Pst.take_whole _ h]
    · rfl
/-- A table peeled whole is that of what came out. -/
theorem peel_makes {seed : Nat} {L : List Cl} (h : NormT L) (hz : allZ (peelS seed L).L = true) : L = tall seed (tall seed (tzero L.length) (peelS seed L).plus 1) (peelS seed L).minus (-1) := by
  have h1 := Pst.run_whole (seed := seed) 1025 (s := ⟨L, [], [], true⟩) h
  have h2 := allZ_eq hz
  rw [show (peelS seed L).L.length = L.length from Pst.run_len _ _ _] at h2
  rw [← h2]
  exact h1.symm
/-- No sum came out twice. -/
def Pst.good (s : Pst) : Prop := s.once = true → (s.plus ++ s.minus).Nodup
theorem Pst.take_good {seed : Nat} {s : Pst} (i : Nat) (h : s.good) : (s.take seed i).good := by
  unfold Pst.good Pst.take
  dsimp only
  generalize (s.L.getD i default).key = x
  split
  · intro ho
    simp only [Bool.and_eq_true, Bool.not_eq_true', Bool.or_eq_false_iff, decide_eq_false_iff_not] at ho
    have h1 := h ho.1
    have : (s.plus ++ [x] ++ s.minus).Perm (x :: (s.plus ++ s.minus)) := by
      rw [List.append_assoc]
      exact List.perm_middle
    rw [this.nodup_iff, List.nodup_cons, List.mem_append]
    exact ⟨fun hm => hm.elim ho.2.1 ho.2.2, h1⟩
  · intro ho
    simp only [Bool.and_eq_true, Bool.not_eq_true', Bool.or_eq_false_iff, decide_eq_false_iff_not] at ho
    have h1 := h ho.1
    have : (s.plus ++ (s.minus ++ [x])).Perm (x :: (s.plus ++ s.minus)) := by
      rw [← List.append_assoc]
      exact List.perm_append_comm
    rw [this.nodup_iff, List.nodup_cons, List.mem_append]
    exact ⟨fun hm => hm.elim ho.2.1 ho.2.2, h1⟩
theorem Pst.run_good {seed : Nat} : ∀ (m : Nat) {s : Pst}, s.good → (Pst.run seed m s).good
  | 0, _, h => h
  | m + 1, s, h => by
    unfold Pst.run
    split
    · exact Pst.run_good m (Pst.take_good _ h)
    · exact h
theorem peel_good (seed : Nat) (L : List Cl) : (peelS seed L).good := Pst.run_good _ fun _ => by simp
end Go.Proofs.YtmefpnklgfhggaaGreatDoor

/- Peeling, plainly: a table of nothing; a table of one. -/
namespace Go.Proofs.YtmefpnklgfhggaaGreatDoor
open Go.RowKit

theorem zero_bad : Cl.zero.ok = false := by unfold Cl.ok Cl.zero; simp
theorem nextI_none {seed : Nat} {L : List Cl} (h : ∀ j, j < L.length → pureAt seed L j = false) : nextI seed L = L.length := by
  unfold nextI
  have h1 := firstP_le (pureAt seed L) L.length 0
  rcases Nat.lt_or_ge (firstP (pureAt seed L) 0 L.length) L.length with h2 | h2
  · have h3 := firstP_at _ _ _ h2
    rw [Nat.zero_add, h _ h2] at h3
    cases h3
  · omega
theorem pure_zero {seed : Nat} {L : List Cl} (h : allZ L = true) : nextI seed L = L.length := nextI_none fun j hj => by
  unfold pureAt
  rw [allZ_iff.1 h j hj, zero_bad, Bool.false_and]
theorem run_zero {seed m : Nat} {s : Pst} (h : allZ s.L = true) : Pst.run seed m s = s := by
  cases m with
  | zero => rfl
  | succ m =>
    unfold Pst.run
    rw [pure_zero h, if_neg (Nat.lt_irrefl _)]
/-- Out of nothing nothing comes. -/
theorem peel_zero {seed : Nat} {L : List Cl} (h : allZ L = true) : peelS seed L = ⟨L, [], [], true⟩ := run_zero h
theorem put_one (x : Sm) (n : Int) (hn : n = 1 ∨ n = -1) : (Cl.zero.put x n).n = n ∧ (Cl.zero.put x n).key = x ∧ (Cl.zero.put x n).ok = true := by
  have e1 : wrap64 (Cl.zero.n + n) = n := by
    show wrap64 (0 + n) = n
    rw [Int.zero_add]
    exact w64_in (by omega)
  have e2 : Sm.zero.xor x = x := by rw [Sm.xor_comm, Sm.xor_zero]
  have e3 : Sm.zero.xor (chk x) = chk x := by rw [Sm.xor_comm, Sm.xor_zero]
  refine ⟨e1, e2, ?_⟩
  unfold Cl.ok Cl.put
  dsimp only
  rw [e1, show Cl.zero.key.xor x = x from e2, show Cl.zero.check.xor (chk x) = chk x from e3]
  rcases hn with rfl | rfl <;> simp
/-- How many came out, one way less the other way, is the table's count. -/
theorem peel_count {seed : Nat} {L : List Cl} (hg : goodN (L.length : Int) = true) (h : NormT L) (hz : allZ (peelS seed L).L = true) : tcount L = wrap64 (((peelS seed L).plus.length : Int) - (peelS seed L).minus.length) := by
  have hm := peel_makes h hz
  generalize (peelS seed L).plus = p at *
  generalize (peelS seed L).minus = q at *
  obtain ⟨N, hN⟩ : ∃ N, N = L.length := ⟨_, rfl⟩
  rw [← hN] at hm hg
  rw [hm, tcount_all (-1) q _ (by rw [tall_len, tzero_len]; exact hg), tcount_all 1 p _ (by rw [tzero_len]; exact hg), tcount_zero, wrap64_addl]
  congr 1
  omega
theorem Pst.take_few {seed : Nat} (s : Pst) (i : Nat) : (s.take seed i).plus.length + (s.take seed i).minus.length = s.plus.length + s.minus.length + 1 := by
  unfold Pst.take
  dsimp only
  split <;> simp only [List.length_append, List.length_cons, List.length_nil] <;> omega
theorem Pst.run_few {seed : Nat} : ∀ (m : Nat) (s : Pst), (Pst.run seed m s).plus.length + (Pst.run seed m s).minus.length ≤ s.plus.length + s.minus.length + m
  | 0, _ => Nat.le_refl _
  | m + 1, s => by
    unfold Pst.run
    split
    · have h1 := Pst.run_few (seed := seed) m (s.take seed (nextI seed s.L))
      have h2 := Pst.take_few (seed := seed) s (nextI seed s.L)
      omega
    · omega
/-- At most 1025 come out. -/
theorem peel_few (seed : Nat) (L : List Cl) : (peelS seed L).plus.length + (peelS seed L).minus.length ≤ 1025 := by
  have h := Pst.run_few (seed := seed) 1025 ⟨L, [], [], true⟩
  have e : ([] : List Sm).length + ([] : List Sm).length + 1025 = 1025 := rfl
  unfold peelS
  exact Nat.le_trans h (Nat.le_of_eq e)
end Go.Proofs.YtmefpnklgfhggaaGreatDoor

/- Layer 15 by types: a table in a variable; the example that all its statements tell. -/
namespace Go.Proofs.YtmefpnklgfhggaaGreatDoor
open Go.RowKit

/-- The address of a table that is read. -/
def Ty.tabP (t e : TypeId) (seed : Nat) (L : List Cl) : Ty := ⟨fun w v => ∃ s, (Ty.at_ t [.int .u64 (seed : Int), s]).p w v ∧ SlP w e s L.length (flatC L), fun u => u == t || u == e, fun {w w' v S} ⟨s, h1, h2⟩ k hA => by
  refine ⟨s, (Ty.at_ t _).st h1 k fun b hb hl => ?_, (Ty.cls e L).st h2 k fun b hb hl => ?_⟩
  · obtain ⟨cs, t', fr, h3, h4⟩ := hA b hb hl
    exact ⟨cs, t', fr, h3, (Bool.or_eq_false_iff.1 h4).1⟩
  · obtain ⟨cs, t', fr, h3, h4⟩ := hA b hb hl
    exact ⟨cs, t', fr, h3, (Bool.or_eq_false_iff.1 h4).2⟩⟩
section
variable {w0 : World} {Γ : Ctx} {o : Oper} {x : Operand} {e : TypeId} {seed : Nat} {L : List Cl}
theorem cLoadTab46 (ho : o.op = .load 40 x) (hx : Has w0 Γ x (Ty.tabP 40 e seed L)) : OpOk Tryz.prog w0 Γ o (Ty.tab e seed L) :=
  .val fun a w hb hs => by
    obtain ⟨v, h1, s, h2, h5⟩ := hx.see hs (by simp [ho, Op.operands]) hb
    obtain ⟨ad, rfl, h3⟩ := pts_at _ _ w v h2
    refine ⟨.agg #[.int .u64 (seed : Int), s], ⟨s, rfl, h5⟩, ?_⟩
    have h4 := run_loadVar_rd (P := Tryz.prog) h3 Tryz.underlying40 rfl (by rw [sizeT46]; rfl)
    unfold execOp
    simp [ho, h1, Instr.loadAt, Instr.sureAddr, h4]
end
section
variable {P : Program} {ops : Array Oper} {Q : Exit → Act → World → Prop} {N : Nat} {Γ : Ctx} {a : Act} {w : World} {o1 o2 : Oper} {rest : List Oper}
/-- A variable made, and a table stored there. -/
theorem tlNewTab {T e : TypeId} {p q : Nat} {seed : Nat} {L : List Cl} {τ : Ty} (hF : Fr N Γ a w) (h1 : o1.op = .alloc T) (hg1 : o1.guard = none) (hd1 : o1.dst = some p) (hp : p < N) (hpq : Nat.beq p q = false)
    (hz : ∀ w : World, (Instr.alloc T true (.tuple #[])).run P w = .ok (.pointer (some ⟨w.heap.size, 0, none⟩)) (w.alloc (.cells #[.int .u64 0, .slice none 0 0] T)))
    (h2 : o2.op = .store T (.tmp p) (.tmp q)) (hg2 : o2.guard = none) (hd2 : o2.dst = none) (hq : look Γ q = some τ) (hτ : ∀ w v, τ.p w v → (Ty.tab e seed L).p w v) (hi : (P.info? T).map (·.size) = some 2)
    (hk : ∀ a' w', Fr N ((p, Ty.tabP T e seed L) :: Γ) a' w' → Below w.heap.size w w' → wpList P ops Q rest a' w') : wpList P ops Q (o1 :: o2 :: rest) a w := by
  obtain ⟨v, hv2, hFo⟩ := hF.open hq
  obtain ⟨s, rfl, hs⟩ := hτ _ _ hv2
  refine wpList_plain hg1 fun K hK => ?_
  unfold Oper.wp execOp
  simp only [h1, Sem.run_bind, hz, Result.andThen_ok, Sem.run_pure]
  refine hK _ _ ?_
  rw [hd1]
  have hb1 : Below w.heap.size w (w.alloc (.cells #[.int .u64 0, .slice none 0 0] T)) := ((Keeps.refl [] w).alloc _).below
  have hF1 : Fr N ((p, Ty.ex (.pointer (some ⟨w.heap.size, 0, none⟩))) :: (q, Ty.ex (.agg #[.int .u64 (seed : Int), s])) :: Γ) (a.put (some p) (.pointer (some ⟨w.heap.size, 0, none⟩))) (w.alloc (.cells #[.int .u64 0, .slice none 0 0] T)) := hFo.put hp hb1 rfl
  have hv3 := hF1.getEx (s := q) (v := .agg #[.int .u64 (seed : Int), s]) (by rw [look]; simp only [hpq, cond_false]; exact look_same _ _ _)
  refine tlStoreV (Δ := []) hF1 hg2 hd2 h2 (look_same _ _ _) hv3 (Blk.new w _ _) rfl (by rw [hi]; rfl) (sl_one hs _) (hF1.keep []) rfl ?_
  intro w' _ hb' hkx
  have hB := below_own hb1 hkx (by intro y hy; simp only [List.mem_singleton] at hy; omega)
  refine hk _ _ (hF.put hp hB ⟨s, ⟨w.heap.size, 0, _, (0, 0), rfl, hb', fun j u h => by simpa [Value.cells] using h⟩, (Ty.cls e L).below hs hB⟩) hB
end

section
variable {P : Program} {ops : Array Oper} {Q : Exit → Act → World → Prop} {N : Nat} {Γ : Ctx} {a : Act} {w : World} {o1 o2 : Oper} {rest : List Oper}
/-- A variable made, and a table of one's own stored there. -/
theorem tlNewTabS2 {T e : TypeId} {p q : Nat} {seed : Nat} {L : List Cl} {w1 : World} (hF : Fr N Γ a w) (h1 : o1.op = .alloc T) (hg1 : o1.guard = none) (hd1 : o1.dst = some p) (hp : p < N) (hpq : Nat.beq p q = false)
    (hz : ∀ w : World, (Instr.alloc T true (.tuple #[])).run P w = .ok (.pointer (some ⟨w.heap.size, 0, none⟩)) (w.alloc (.cells #[.int .u64 0, .slice none 0 0] T)))
    (h2 : o2.op = .store T (.tmp p) (.tmp q)) (hg2 : o2.guard = none) (hd2 : o2.dst = none) (hq : look Γ q = some (Ty.tabO w1 e seed L)) (hi : (P.info? T).map (·.size) = some 2)
    (hk : ∀ a' w' s, Fr N ((p, Ty.ex (.pointer (some ⟨w.heap.size, 0, none⟩))) :: Γ) a' w' → Below w.heap.size w w' → Blk w' w.heap.size T #[.int .u64 (seed : Int), s] → (Ty.seg w1 e 65 L.length (flatC L)).p w' s → wpList P ops Q rest a' w') : wpList P ops Q (o1 :: o2 :: rest) a w := by
  obtain ⟨v, hv2, hFo⟩ := hF.open hq
  obtain ⟨s, rfl, hs⟩ := hv2
  refine wpList_plain hg1 fun K hK => ?_
  unfold Oper.wp execOp
  simp only [h1, Sem.run_bind, hz, Result.andThen_ok, Sem.run_pure]
  refine hK _ _ ?_
  rw [hd1]
  have hb1 : Below w.heap.size w (w.alloc (.cells #[.int .u64 0, .slice none 0 0] T)) := ((Keeps.refl [] w).alloc _).below
  have hF1 : Fr N ((p, Ty.ex (.pointer (some ⟨w.heap.size, 0, none⟩))) :: (q, Ty.ex (.agg #[.int .u64 (seed : Int), s])) :: Γ) (a.put (some p) (.pointer (some ⟨w.heap.size, 0, none⟩))) (w.alloc (.cells #[.int .u64 0, .slice none 0 0] T)) := hFo.put hp hb1 rfl
  have hv3 := hF1.getEx (s := q) (v := .agg #[.int .u64 (seed : Int), s]) (by rw [look]; simp only [hpq, cond_false]; exact look_same _ _ _)
  refine tlStoreV (Δ := []) hF1 hg2 hd2 h2 (look_same _ _ _) hv3 (Blk.new w _ _) rfl (by rw [hi]; rfl) (sl_one (seg_sl _ _ hs) _) (hF1.keep []) rfl ?_
  intro w' _ hb' hkx
  have hB := below_own hb1 hkx (by intro y hy; simp only [List.mem_singleton] at hy; omega)
  exact hk _ _ s (hF.put hp hB rfl) hB (by simpa [Value.cells] using hb') ((Ty.seg w1 e 65 L.length (flatC L)).below hs hB)
end
theorem newE_good {n : Int} (h : goodN n = true) : newE n = .int .i64 0 := by unfold newE; rw [h]; rfl
theorem newS_good {seed : Nat} {n : Int} (h : goodN n = true) : newS seed n = seed := by unfold newS; rw [h]; rfl
theorem minOk_good {s : Nat} {A B : List Cl} (h : goodN (A.length : Int) = true) (hl : A.length = B.length) : minOk s s A B = true := by unfold minOk; rw [h, decide_eq_true hl, decide_eq_true rfl]; rfl
end Go.Proofs.YtmefpnklgfhggaaGreatDoor

/- Layer 15 by types: TableApart. -/
namespace Go.Proofs.YtmefpnklgfhggaaGreatDoor
open Go.RowKit

theorem sumC_minus : ∀ A B : List Cl, A.length = B.length → wrap64 (sumC (tminus A B)) = wrap64 (sumC A - sumC B)
  | [], [], _ => rfl
  | [], _ :: _, h => by simp at h
  | _ :: _, [], h => by simp at h
  | a :: A, b :: B, h => by
    have ih := sumC_minus A B (by simpa using h)
    simp only [sumC, tminus, List.zipWith_cons_cons, List.map_cons, List.sum_cons] at ih ⊢
    show wrap64 (wrap64 (a.n - b.n) + _) = _
    rw [wrap64_addl, ← wrap64_addr, ih, wrap64_addr]
    congr 1
    omega
theorem tcount_minus {A B : List Cl} (h : A.length = B.length) : tcount (tminus A B) = wrap64 (tcount A - tcount B) := by
  have e : (tminus A B).take (A.length / 3) = tminus (A.take (A.length / 3)) (B.take (A.length / 3)) := by unfold tminus; rw [List.take_zipWith]
  rw [tcount_sum, tcount_sum, tcount_sum, tminus_len h, e, sumC_minus _ _ (by rw [List.length_take, List.length_take, h]), ← h, wrap64_subl, wrap64_sub]
theorem ofL_get {seed : Nat} {n : Int} {D : List Sm} (hg : goodN n = true) {j : Nat} (hj : j < n.toNat) : (ofL seed n D).getD j default = putAll 1 Cl.zero ((setL D).filter (isAt seed n.toNat j)) := by
  unfold ofL
  rw [if_pos hg, tall_get _ _ _ _ (by rw [tzero_len]; exact hj), tzero_get hj, tzero_len]
theorem ofL_apart {seed : Nat} {n : Int} (hg : goodN n = true) (X Y : List Sm) : tminus (ofL seed n X) (ofL seed n Y) = tminus (ofL seed n (minusL X Y)) (ofL seed n (minusL Y X)) := by
  have hl : ∀ D E : List Sm, (ofL seed n D).length = (ofL seed n E).length := fun D E => by rw [ofL_len hg, ofL_len hg]
  have hR : (setL Y).filter (fun x => decide (x ∈ X)) = (setL X).filter (fun x => decide (x ∈ Y)) := srt_ext (srt_filter (setL_srt Y) _) (srt_filter (setL_srt X) _) fun x => by
    simp only [List.mem_filter, setL_mem, decide_eq_true_eq]
    exact And.comm
  have e1 : setL (minusL X Y) = minusL X Y := setL_self (minusL_srt _ _)
  have e2 : setL (minusL Y X) = minusL Y X := setL_self (minusL_srt _ _)
  apply list_extD
  · rw [tminus_len (hl _ _), tminus_len (hl _ _), ofL_len hg, ofL_len hg]
  · intro j hj
    rw [tminus_len (hl _ _), ofL_len hg] at hj
    rw [tminus_get (hl _ _) (by rw [ofL_len hg]; exact hj), tminus_get (hl _ _) (by rw [ofL_len hg]; exact hj), ofL_get hg hj, ofL_get hg hj, ofL_get hg hj, ofL_get hg hj, e1, e2]
    refine putAll_less Cl.zero (R := ((setL X).filter (fun x => decide (x ∈ Y))).filter (isAt seed n.toNat j)) ?_ ?_
    · have h := (setless (A := X) (B := Y)).filter (isAt seed n.toNat j)
      rwa [List.filter_append] at h
    · have h := (setless (A := Y) (B := X)).filter (isAt seed n.toNat j)
      rw [List.filter_append, hR] at h
      exact h
end Go.Proofs.YtmefpnklgfhggaaGreatDoor

/- Peeling, plainly: what All and Own answer; the laws of chapter 16. -/
namespace Go.Proofs.YtmefpnklgfhggaaGreatDoor
open Go.RowKit

def peelOk (seed : Nat) (L : List Cl) : Bool := goodN (L.length : Int) && (peelS seed L).fine
def resP (seed : Nat) (L : List Cl) : List Sm := if peelOk seed L then setL (peelS seed L).plus else []
def resM (seed : Nat) (L : List Cl) : List Sm := if peelOk seed L then setL (peelS seed L).minus else []
def resN (seed : Nat) (L : List Cl) : Int := if goodN (L.length : Int) then (if peelOk seed L then 0 else 10) else 1
def resS (seed : Nat) (L : List Cl) : Nat := if goodN (L.length : Int) then seed else 0
def resL (seed : Nat) (L : List Cl) : List Cl := if goodN (L.length : Int) then (peelS seed L).L else []
/-- Another's table less that of one's own. -/
def ownD (seed : Nat) (L : List Cl) (M : List Sm) : List Cl := tminus L (ofL seed (L.length : Int) M)
def ownB (seed : Nat) (L : List Cl) (M : List Sm) : Bool := decide (0 < (minusL (resM seed (ownD seed L M)) M).length) || decide (0 < (bothL (resP seed (ownD seed L M)) M).length)
def ownN (seed : Nat) (L : List Cl) (M : List Sm) : Int := if goodN (L.length : Int) && goodL M then (if resN seed (ownD seed L M) = 0 then (if ownB seed L M then 10 else 0) else resN seed (ownD seed L M)) else 1
def ownP (seed : Nat) (L : List Cl) (M : List Sm) : List Sm := if ownN seed L M = 0 then resP seed (ownD seed L M) else []
def ownQ (seed : Nat) (L : List Cl) (M : List Sm) : List Sm := if ownN seed L M = 0 then resM seed (ownD seed L M) else []
theorem ofL_len' {seed : Nat} {L : List Cl} {M : List Sm} (hg : goodN (L.length : Int) = true) : (ofL seed (L.length : Int) M).length = L.length := by rw [ofL_len hg]; omega
theorem ownD_len {seed : Nat} {L : List Cl} {M : List Sm} (hg : goodN (L.length : Int) = true) : (ownD seed L M).length = L.length := tminus_len (ofL_len' hg).symm
theorem ownD_norm {seed : Nat} {L : List Cl} {M : List Sm} (hg : goodN (L.length : Int) = true) : NormT (ownD seed L M) := tminus_norm (ofL_len' hg).symm
theorem setL_perm {D : List Sm} (h : D.Nodup) : (setL D).Perm D := (List.perm_ext_iff_of_nodup (srt_nodup (setL_srt D)) h).2 (setL_mem D)
theorem setL_none : setL ([] : List Sm) = [] := setL_self List.Pairwise.nil
section
variable {seed : Nat} {L : List Cl}
theorem resN_ok (h : peelOk seed L = true) : resN seed L = 0 := by
  unfold resN
  rw [h]
  unfold peelOk at h
  simp only [Bool.and_eq_true] at h
  rw [h.1]; rfl
theorem ok_resN (h : resN seed L = 0) : peelOk seed L = true := by
  unfold resN at h
  split at h
  · split at h
    · assumption
    · simp at h
  · simp at h
theorem resP_srt : srt (resP seed L) := by
  unfold resP
  split
  · exact setL_srt _
  · exact List.Pairwise.nil
theorem resM_srt : srt (resM seed L) := by
  unfold resM
  split
  · exact setL_srt _
  · exact List.Pairwise.nil
theorem peel_few1 : (peelS seed L).plus.length ≤ 1025 ∧ (peelS seed L).minus.length ≤ 1025 := by
  have := peel_few seed L
  omega
theorem resP_len : (resP seed L).length ≤ 1025 := by
  unfold resP
  split
  · exact Nat.le_trans (setL_len _) peel_few1.1
  · simp
theorem resM_len : (resM seed L).length ≤ 1025 := by
  unfold resM
  split
  · exact Nat.le_trans (setL_len _) peel_few1.2
  · simp
theorem ok_nodup (h : peelOk seed L = true) : ((peelS seed L).plus ++ (peelS seed L).minus).Nodup := by
  unfold peelOk Pst.fine at h
  simp only [Bool.and_eq_true] at h
  exact peel_good seed L h.2.1
theorem ok_zero (h : peelOk seed L = true) : allZ (peelS seed L).L = true := by
  unfold peelOk Pst.fine at h
  simp only [Bool.and_eq_true] at h
  exact h.2.2
theorem ok_perm (h : peelOk seed L = true) : (resP seed L).Perm (peelS seed L).plus ∧ (resM seed L).Perm (peelS seed L).minus := by
  have hn := ok_nodup h
  rw [List.nodup_append] at hn
  unfold resP resM
  rw [h]
  exact ⟨setL_perm hn.1, setL_perm hn.2.1⟩
theorem ok_count (hn : NormT L) (h : peelOk seed L = true) : tcount L = wrap64 (((resP seed L).length : Int) - (resM seed L).length) := by
  have hg : goodN (L.length : Int) = true := by
    unfold peelOk at h
    simp only [Bool.and_eq_true] at h
    exact h.1
  rw [(ok_perm h).1.length_eq, (ok_perm h).2.length_eq]
  exact peel_count hg hn (ok_zero h)
theorem tof_minus (N : Nat) (P Q : List Sm) : tminus (tall seed (tzero N) P 1) (tall seed (tzero N) Q 1) = tall seed (tall seed (tzero N) P 1) Q (-1) := by
  have hl : (tall seed (tzero N) P 1).length = (tall seed (tzero N) Q 1).length := by rw [tall_len, tall_len]
  apply list_extD
  · rw [tminus_len hl, tall_len, tall_len, tall_len]
  · intro j hj
    rw [tminus_len hl, tall_len, tzero_len] at hj
    rw [tminus_get hl (by rw [tall_len, tzero_len]; exact hj), tall_get seed 1 Q (tzero N) (by rw [tzero_len]; exact hj), tall_get seed (-1) Q (tall seed (tzero N) P 1) (by rw [tall_len, tzero_len]; exact hj), tall_get seed 1 P (tzero N) (by rw [tzero_len]; exact hj), tall_len, tzero_len, tzero_get hj, minus_putAll (n := 1) (m := -1) (by decide), minus_zero _ (putAll_norm _ _ _ zero_norm)]
theorem ofL_good' {n : Int} {D : List Sm} (hg : goodN n = true) : ofL seed n D = tall seed (tzero n.toNat) (setL D) 1 := by unfold ofL; rw [hg]; rfl
/-- Of a table of nothing nothing is told. -/
theorem ok_zero0 (hg : goodN (L.length : Int) = true) (h : allZ L = true) : peelOk seed L = true ∧ resP seed L = [] ∧ resM seed L = [] ∧ resN seed L = 0 := by
  have hp := peel_zero (seed := seed) h
  have hok : peelOk seed L = true := by
    unfold peelOk Pst.fine
    rw [hp, hg, h]; rfl
  refine ⟨hok, ?_, ?_, resN_ok hok⟩
  · unfold resP; rw [hok, hp]; exact setL_none
  · unfold resM; rw [hok, hp]; exact setL_none
theorem setL_one (x : Sm) : setL [x] = [x] := setL_self (List.pairwise_singleton _ _)
end
/-- What Own tells where it tells. -/
theorem own_of {seed : Nat} {L : List Cl} {M : List Sm} (hg : goodN (L.length : Int) = true) (hM : goodL M = true) {P Q : List Sm} (hok : resN seed (ownD seed L M) = 0) (hP : resP seed (ownD seed L M) = P) (hQ : resM seed (ownD seed L M) = Q) (h1 : minusL Q M = []) (h2 : bothL P M = []) : ownN seed L M = 0 ∧ ownP seed L M = P ∧ ownQ seed L M = Q := by
  have hN : ownN seed L M = 0 := by
    unfold ownN ownB
    rw [hP, hQ, h1, h2, hg, hM, if_pos (by rfl), if_pos hok]; rfl
  refine ⟨hN, ?_, ?_⟩
  · unfold ownP; rw [if_pos hN, hP]
  · unfold ownQ; rw [if_pos hN, hQ]
theorem len0 {α : Type} {l : List α} (h : ¬ 0 < l.length) : l = [] := List.eq_nil_of_length_eq_zero (by omega)
theorem own_ok {seed : Nat} {L : List Cl} {M : List Sm} (h : ownN seed L M = 0) : goodN (L.length : Int) = true ∧ goodL M = true ∧ peelOk seed (ownD seed L M) = true ∧ ownP seed L M = resP seed (ownD seed L M) ∧ ownQ seed L M = resM seed (ownD seed L M) ∧ minusL (ownQ seed L M) M = [] ∧ bothL (ownP seed L M) M = [] := by
  have eP : ownP seed L M = resP seed (ownD seed L M) := by unfold ownP; rw [if_pos h]
  have eQ : ownQ seed L M = resM seed (ownD seed L M) := by unfold ownQ; rw [if_pos h]
  rw [eP, eQ]
  unfold ownN at h
  split at h
  · rename_i hgm
    simp only [Bool.and_eq_true] at hgm
    split at h
    · rename_i hr
      split at h
      · simp at h
      · rename_i hb
        unfold ownB at hb
        simp only [Bool.or_eq_true, decide_eq_true_eq, not_or] at hb
        exact ⟨hgm.1, hgm.2, ok_resN hr, rfl, rfl, len0 hb.1, len0 hb.2⟩
    · rename_i hr; exact absurd h hr
  · simp at h
theorem ofL_nil {seed : Nat} {n : Int} (hg : goodN n = true) : ofL seed n [] = tzero n.toNat := by rw [ofL_good' hg, setL_none]; rfl
theorem tcount_of {seed : Nat} {n : Int} (hg : goodN n = true) (D : List Sm) : tcount (ofL seed n D) = wrap64 (setL D).length := by
  obtain ⟨N, hN, _⟩ := goodN_rng hg
  rw [ofL_good' hg, tcount_all 1 _ _ (by rw [tzero_len, show ((n.toNat : Nat) : Int) = n by omega]; exact hg), tcount_zero]
  congr 1
  omega
/-- PeelRoom. -/
theorem room16 {seed : Nat} {n : Int} {X M : List Sm} (hg : goodN n = true) (hX : srt X) (hM : srt M) (hxl : X.length ≤ 512) (hml : M.length ≤ 512) (h : ownN seed (ofL seed n X) M = 0) : (X.length : Int) - M.length = (ownP seed (ofL seed n X) M).length - (ownQ seed (ofL seed n X) M).length := by
  obtain ⟨hgl, _, hok, eP, eQ, _, _⟩ := own_ok h
  obtain ⟨N, hN, _⟩ := goodN_rng hg
  have hl : (ofL seed n X).length = n.toNat := ofL_len hg
  have hc := ok_count (ownD_norm hgl) hok
  have hD : ownD seed (ofL seed n X) M = tminus (ofL seed n X) (ofL seed n M) := by
    unfold ownD
    rw [ofL_len hg, show ((n.toNat : Nat) : Int) = n by omega]
  rw [← eP, ← eQ] at hc
  rw [hD, tcount_minus (by rw [ofL_len hg, ofL_len hg]), tcount_of hg, tcount_of hg, setL_self hX, setL_self hM, wrap64_sub, wrap64_subl] at hc
  have h1 := resP_len (seed := seed) (L := ownD seed (ofL seed n X) M)
  have h2 := resM_len (seed := seed) (L := ownD seed (ofL seed n X) M)
  rw [← eP] at h1
  rw [← eQ] at h2
  rwa [w64_in (by omega), w64_in (by omega)] at hc
end Go.Proofs.YtmefpnklgfhggaaGreatDoor

/- Peeling, plainly: a table of one more and one less. -/
namespace Go.Proofs.YtmefpnklgfhggaaGreatDoor
open Go.RowKit

theorem next_at {seed : Nat} {L : List Cl} {j : Nat} (hj : j < L.length) (h : pureAt seed L j = true) : nextI seed L < L.length ∧ pureAt seed L (nextI seed L) = true := by
  have hlt : nextI seed L < L.length := by
    rcases Nat.lt_or_ge (nextI seed L) L.length with h1 | h1
    · exact h1
    · have hle := firstP_le (pureAt seed L) L.length 0
      have := firstP_all (pureAt seed L) (k := L.length) (by unfold nextI at h1; omega) j hj
      rw [h] at this
      cases this
  have := firstP_at (pureAt seed L) L.length 0 (by unfold nextI at hlt; omega)
  rw [Nat.zero_add] at this
  exact ⟨hlt, this⟩
theorem run_next {seed m : Nat} {s : Pst} (h : nextI seed s.L < s.L.length) : Pst.run seed (m + 1) s = Pst.run seed m (s.take seed (nextI seed s.L)) := by
  conv => lhs; unfold Pst.run
  rw [if_pos h]
section
variable {seed N : Nat} {x y : Sm}
theorem one_cell (n : Int) {j : Nat} (hj : j < N) : (tput seed (tzero N) x n).getD j default = if isAt seed N j x then Cl.zero.put x n else Cl.zero := by
  rw [tput_get seed (tzero N) x n (by rw [tzero_len]; exact hj), tzero_len, tzero_get hj]
theorem one_pure (n : Int) (hn : n = 1 ∨ n = -1) {j : Nat} (hj : j < N) : pureAt seed (tput seed (tzero N) x n) j = isAt seed N j x := by
  unfold pureAt
  rw [one_cell n hj, tput_len, tzero_len]
  obtain ⟨h1, h2, h3⟩ := put_one x n hn
  by_cases hi : isAt seed N j x = true
  · rw [if_pos hi, h3, h2, hi]; rfl
  · rw [if_neg hi, zero_bad, Bool.false_and]; simpa using hi
theorem place_ex (hg : goodN (N : Int) = true) (x : Sm) : ∃ j, j < N ∧ isAt seed N j x = true := by
  have hpl : 0 < (placesN seed (N : Int) x).length := by
    unfold placesN
    rw [if_pos hg, plc_len]
    decide
  exact ⟨_, places_lt seed N x _ (getD_mem hpl), decide_eq_true (getD_mem hpl)⟩
/-- One that is left comes out. -/
theorem run_one (hg : goodN (N : Int) = true) (n : Int) (hn : n = 1 ∨ n = -1) (P Q : List Sm) (o : Bool) (m : Nat) (hP : x ∉ P) (hQ : x ∉ Q) : Pst.run seed (m + 1) ⟨tput seed (tzero N) x n, P, Q, o⟩ = if n = 1 then ⟨tzero N, P ++ [x], Q, o⟩ else ⟨tzero N, P, Q ++ [x], o⟩ := by
  have hlen : (tput seed (tzero N) x n).length = N := by rw [tput_len, tzero_len]
  obtain ⟨j, hj, hx⟩ := place_ex (seed := seed) hg x
  obtain ⟨h1, h2⟩ := next_at (by rw [hlen]; exact hj) ((one_pure n hn hj).trans hx)
  rw [run_next (s := ⟨tput seed (tzero N) x n, P, Q, o⟩) h1]
  dsimp only
  rw [hlen] at h1
  generalize nextI seed (tput seed (tzero N) x n) = i at *
  rw [one_pure n hn h1] at h2
  obtain ⟨e1, e2, _⟩ := put_one x n hn
  have hbk : ∀ m : Int, n + m = 0 → tput seed (tput seed (tzero N) x n) x m = tzero N := fun m hm => tput_back hm x (tzero_norm N)
  have htk : Pst.take seed ⟨tput seed (tzero N) x n, P, Q, o⟩ i = if n = 1 then ⟨tzero N, P ++ [x], Q, o⟩ else ⟨tzero N, P, Q ++ [x], o⟩ := by
    unfold Pst.take
    dsimp only
    rw [one_cell n h1, if_pos h2, e1, e2, decide_eq_false hP, decide_eq_false hQ]
    rcases hn with rfl | rfl
    · rw [if_pos rfl, if_pos rfl, hbk (-1) (by decide)]; simp
    · rw [if_neg (by decide), if_neg (by decide), hbk 1 (by decide)]; simp
  rw [htk]
  rcases hn with rfl | rfl
  · rw [if_pos rfl]; exact run_zero (allZ_tzero N)
  · rw [if_neg (by decide)]; exact run_zero (allZ_tzero N)
/-- One more and one less. -/
def twoT (seed N : Nat) (x y : Sm) : List Cl := tput seed (tput seed (tzero N) x 1) y (-1)
theorem two_len : (twoT seed N x y).length = N := by unfold twoT; rw [tput_len, tput_len, tzero_len]
theorem two_cell {j : Nat} (hj : j < N) : (twoT seed N x y).getD j default = if isAt seed N j y then (if isAt seed N j x then Cl.zero.put x 1 else Cl.zero).put y (-1) else (if isAt seed N j x then Cl.zero.put x 1 else Cl.zero) := by
  unfold twoT
  rw [tput_get _ _ _ _ (by rw [tput_len, tzero_len]; exact hj), tput_len, tzero_len, one_cell 1 hj]
theorem two_pure {j : Nat} (hj : j < N) : pureAt seed (twoT seed N x y) j = (isAt seed N j x != isAt seed N j y) := by
  unfold pureAt
  rw [two_cell hj, two_len]
  cases hx : isAt seed N j x <;> cases hy : isAt seed N j y
  · simp [zero_bad]
  · obtain ⟨h1, h2, h3⟩ := put_one y (-1) (.inr rfl)
    simp only [Bool.false_eq_true, if_false, if_true, h3, h2, hy]; rfl
  · obtain ⟨h1, h2, h3⟩ := put_one x 1 (.inl rfl)
    simp only [Bool.false_eq_true, if_false, if_true, h3, h2, hx]; rfl
  · have : (((Cl.zero.put x 1).put y (-1)).ok) = false := by
      have e : ((Cl.zero.put x 1).put y (-1)).n = 0 := by
        show wrap64 ((Cl.zero.put x 1).n + -1) = 0
        rw [(put_one x 1 (.inl rfl)).1]; exact w64_in (by omega)
      unfold Cl.ok
      rw [e]
      simp
    simp only [if_true, this]; rfl
theorem peel_two (hg : goodN (N : Int) = true) (hxy : ¬ x = y) {j : Nat} (hj : j < N) (h : (isAt seed N j x != isAt seed N j y) = true) : peelS seed (twoT seed N x y) = ⟨tzero N, [x], [y], true⟩ := by
  obtain ⟨h1, h2⟩ := next_at (seed := seed) (L := twoT seed N x y) (by rw [two_len]; exact hj) ((two_pure hj).trans h)
  unfold peelS
  rw [show (1025 : Nat) = 1024 + 1 from rfl, run_next (s := ⟨twoT seed N x y, [], [], true⟩) h1]
  dsimp only
  rw [two_len] at h1
  generalize nextI seed (twoT seed N x y) = i at *
  rw [two_pure h1] at h2
  have hsw : twoT seed N x y = tput seed (tput seed (tzero N) y (-1)) x 1 := tall_swap seed 1 (-1) [x] [y] (tzero N)
  cases hx : isAt seed N i x <;> cases hy : isAt seed N i y <;> rw [hx, hy] at h2
  · cases h2
  · obtain ⟨e1, e2, _⟩ := put_one y (-1) (.inr rfl)
    have htk : Pst.take seed ⟨twoT seed N x y, [], [], true⟩ i = ⟨tput seed (tzero N) x 1, [], [y], true⟩ := by
      unfold Pst.take
      dsimp only
      rw [two_cell h1, hx, hy]
      simp only [Bool.false_eq_true, if_false, if_true, e1, e2]
      rw [if_neg (by decide)]
      have hb : tput seed (twoT seed N x y) y 1 = tput seed (tzero N) x 1 := tput_back (n := -1) (m := 1) (by decide) y (tput_norm x (tzero_norm N))
      rw [hb]
      simp
    rw [htk, show (1024 : Nat) = 1023 + 1 from rfl, run_one hg 1 (.inl rfl) [] [y] true 1023 (by simp) (by simpa using hxy), if_pos rfl]
    rfl
  · obtain ⟨e1, e2, _⟩ := put_one x 1 (.inl rfl)
    have htk : Pst.take seed ⟨twoT seed N x y, [], [], true⟩ i = ⟨tput seed (tzero N) y (-1), [x], [], true⟩ := by
      unfold Pst.take
      dsimp only
      rw [two_cell h1, hx, hy]
      simp only [Bool.false_eq_true, if_false, if_true, e1, e2]
      have hb : tput seed (twoT seed N x y) x (-1) = tput seed (tzero N) y (-1) := by
        rw [hsw]
        exact tput_back (n := 1) (m := -1) (by decide) x (tput_norm y (tzero_norm N))
      rw [hb]
      simp
    rw [htk, show (1024 : Nat) = 1023 + 1 from rfl, run_one hg (-1) (.inr rfl) [x] [] true 1023 (by simpa using fun e => hxy e.symm) (by simp), if_neg (by decide)]
    rfl
  · cases h2
theorem ok_two (hg : goodN (N : Int) = true) (hxy : ¬ x = y) {j : Nat} (hj : j < N) (h : (isAt seed N j x != isAt seed N j y) = true) : resN seed (twoT seed N x y) = 0 ∧ resP seed (twoT seed N x y) = [x] ∧ resM seed (twoT seed N x y) = [y] := by
  have hp := peel_two hg hxy hj h
  have hok : peelOk seed (twoT seed N x y) = true := by
    unfold peelOk Pst.fine
    rw [hp, two_len, hg]
    simp [allZ_tzero]
  refine ⟨resN_ok hok, ?_, ?_⟩
  · unfold resP; rw [hok, hp]; exact setL_one x
  · unfold resM; rw [hok, hp]; exact setL_one y
end
/-- Sets that differ by one each way. -/
theorem two16 {seed : Nat} {n : Int} {X Y : List Sm} {x y : Sm} (hg : goodN n = true) (hY : srt Y) (hyl : Y.length ≤ 512) (h1 : minusL X Y = [x]) (h2 : minusL Y X = [y]) {j : Nat} (hj : j < n.toNat) (h : (isAt seed n.toNat j x != isAt seed n.toNat j y) = true) :
    tminus (ofL seed n X) (ofL seed n Y) = twoT seed n.toNat x y ∧ ownN seed (ofL seed n X) Y = 0 ∧ ownP seed (ofL seed n X) Y = [x] ∧ ownQ seed (ofL seed n X) Y = [y] := by
  obtain ⟨N, hN, _⟩ := goodN_rng hg
  have hNg : goodN ((n.toNat : Nat) : Int) = true := by rwa [show ((n.toNat : Nat) : Int) = n by omega]
  have hx := minusL_mem.1 (show x ∈ minusL X Y by rw [h1]; simp)
  have hy := minusL_mem.1 (show y ∈ minusL Y X by rw [h2]; simp)
  have hxy : ¬ x = y := fun e => hx.2 (e ▸ hy.1)
  have hT : tminus (ofL seed n X) (ofL seed n Y) = twoT seed n.toNat x y := by
    rw [ofL_apart hg X Y, h1, h2, ofL_good' hg, ofL_good' hg, setL_one, setL_one]
    exact tof_minus n.toNat [x] [y]
  have hD : ownD seed (ofL seed n X) Y = twoT seed n.toNat x y := by
    rw [← hT]
    unfold ownD
    rw [ofL_len hg, show ((n.toNat : Nat) : Int) = n by omega]
  obtain ⟨a1, a2, a3⟩ := ok_two hNg hxy hj h
  refine ⟨hT, own_of (ofL_good hg) (by rw [goodL_srt hY, decide_eq_true hyl]) (by rw [hD]; exact a1) (by rw [hD]; exact a2) (by rw [hD]; exact a3) ?_ ?_⟩
  · refine List.eq_nil_iff_forall_not_mem.2 fun z hz => ?_
    have hz := minusL_mem.1 hz
    simp only [List.mem_singleton] at hz
    exact hz.2 (hz.1 ▸ hy.1)
  · refine List.eq_nil_iff_forall_not_mem.2 fun z hz => ?_
    have hz := bothL_mem.1 hz
    simp only [List.mem_singleton] at hz
    exact hx.2 (hz.1 ▸ hz.2)
end Go.Proofs.YtmefpnklgfhggaaGreatDoor

/- Strata, plainly: a set's levels; how unlike two are; how many cells. -/
namespace Go.Proofs.YtmefpnklgfhggaaGreatDoor
open Go.RowKit

/-- What of a row is of level i. -/
def lvl (D : List Sm) (i : Nat) : List Sm := D.filter fun x => decide (levelS x = i)
theorem lvl_len (D : List Sm) (i : Nat) : (lvl D i).length ≤ D.length := List.length_filter_le _ _
theorem level_lt (x : Sm) : levelS x < 10 := by
  have := halves_le 9 (wordF (shaS (76 :: x.l)).l 3 8)
  unfold levelS
  omega
/-- The tables of a set's levels. -/
def stL (seed : Nat) (D : List Sm) : List (List Cl) := (List.range 10).map fun i => ofL seed 24 (lvl (setL D) i)
theorem stL_len (seed : Nat) (D : List Sm) : (stL seed D).length = 10 := by simp [stL]
theorem stL_get (seed : Nat) (D : List Sm) {i : Nat} (h : i < 10) : (stL seed D).getD i [] = ofL seed 24 (lvl (setL D) i) := by
  simp [stL, List.getD, h]
theorem g24 : goodN 24 = true := by decide
def goodSt (A : List (List Cl)) : Bool := decide (A.length = 10) && A.all fun L => decide (L.length = 24)
theorem stL_good (seed : Nat) (D : List Sm) : goodSt (stL seed D) = true := by
  unfold goodSt
  rw [stL_len, decide_eq_true rfl, Bool.true_and, List.all_eq_true]
  intro L hL
  obtain ⟨i, _, rfl⟩ := List.mem_map.1 hL
  exact decide_eq_true (ofL_len g24)
/-- What two strata differ by at level i. -/
def difD (A B : List (List Cl)) (i : Nat) : List Cl := tminus (A.getD i []) (B.getD i [])
def difC (sd : Nat) (A B : List (List Cl)) (i : Nat) : Nat := (resP sd (difD A B i)).length + (resM sd (difD A B i)).length
/-- From level k down. -/
def difGo (sd : Nat) (A B : List (List Cl)) : Nat → Nat → Nat
  | 0, n => n
  | i + 1, n => if resN sd (difD A B i) = 0 then difGo sd A B i (n + difC sd A B i) else min ((if n = 0 then 24 else n) * 2 ^ (i + 1)) 1024
def sumTo (c : Nat → Nat) : Nat → Nat
  | 0 => 0
  | k + 1 => c k + sumTo c k
theorem difGo_ok {sd : Nat} {A B : List (List Cl)} : ∀ (k n : Nat), (∀ i, i < k → resN sd (difD A B i) = 0) → difGo sd A B k n = n + sumTo (difC sd A B) k
  | 0, _, _ => rfl
  | k + 1, n, h => by
    unfold difGo sumTo
    rw [if_pos (h k (by omega)), difGo_ok k _ fun i hi => h i (by omega)]
    omega
theorem sumTo_zero {c : Nat → Nat} : ∀ k, (∀ i, i < k → c i = 0) → sumTo c k = 0
  | 0, _ => rfl
  | k + 1, h => by
    unfold sumTo
    rw [h k (by omega), sumTo_zero k fun i hi => h i (by omega)]
theorem sumTo_one {c : Nat → Nat} {j n : Nat} : ∀ k, j < k → c j = n → (∀ i, i < k → i ≠ j → c i = 0) → sumTo c k = n
  | 0, h, _, _ => by omega
  | k + 1, h, h1, h2 => by
    unfold sumTo
    by_cases hj : j = k
    · subst hj
      rw [h1, sumTo_zero j fun i hi => h2 i (by omega) (by omega)]
      omega
    · rw [h2 k (by omega) (by omega), sumTo_one k (by omega) h1 fun i hi hne => h2 i (by omega) hne]
      omega
theorem dif_lvl (seed : Nat) (D E : List Sm) {i : Nat} (h : i < 10) : difD (stL seed D) (stL seed E) i = tminus (ofL seed 24 (lvl (setL D) i)) (ofL seed 24 (lvl (setL E) i)) := by
  unfold difD
  rw [stL_get _ _ h, stL_get _ _ h]
/-- Where the levels are alike nothing differs. -/
theorem dif_same (seed : Nat) {D E : List Sm} {i : Nat} (h : i < 10) (he : lvl (setL D) i = lvl (setL E) i) : resN seed (difD (stL seed D) (stL seed E) i) = 0 ∧ difC seed (stL seed D) (stL seed E) i = 0 := by
  have hd := dif_lvl seed D E h
  rw [he] at hd
  have hl : (difD (stL seed D) (stL seed E) i).length = 24 := by rw [hd, tminus_len rfl]; exact ofL_len g24
  obtain ⟨_, h1, h2, h3⟩ := ok_zero0 (seed := seed) (L := difD (stL seed D) (stL seed E) i) (by rw [hl]; exact g24) (by rw [hd]; exact tminus_self _)
  refine ⟨h3, ?_⟩
  unfold difC
  rw [h1, h2]
  rfl
/-- How many cells. -/
def cellsN (d : Int) : Int := if 1023 ≤ d then 1023 else min ((max ((3 * max d 0 + 1) / 2) 12 + 2) / 3 * 3) 1023
theorem cells_law {a b : Int} (h : a ≤ b) : cellsN a ≤ cellsN b ∧ 12 ≤ cellsN a ∧ cellsN b ≤ 1023 ∧ cellsN a % 3 = 0 ∧ (682 < b ∨ b < 0 ∨ 3 * b ≤ 2 * cellsN b) := by
  unfold cellsN
  split <;> split <;> omega
theorem cells_good (d : Int) : goodN (cellsN d) = true := by
  unfold goodN
  refine decide_eq_true ?_
  unfold cellsN
  split <;> omega
end Go.Proofs.YtmefpnklgfhggaaGreatDoor

/- A map of one's own from sums to bools, as a set. -/
namespace Go.Proofs.YtmefpnklgfhggaaGreatDoor
open Go.RowKit

abbrev MapSB : TypeId := 176
theorem laidS : laidOutB Tryz.prog = true := by kernel_rfl
theorem wideS : (match Tryz.prog.underlying 28 with | some (.array _ _) | some (.struct _) => true | _ => false) = true := by rw [Tryz.underlying28]
set_option maxRecDepth 100000 in
theorem rowS : (28 : TypeId) < Tryz.prog.types.size := of_decide_eq_true (by kernel_rfl)
set_option maxRecDepth 100000 in
theorem ktS : Tryz.prog.keyTypeAt 2 28 = true := by kernel_rfl
set_option maxRecDepth 100000 in
theorem lawS : Go.WideMaps.KeyLaw Tryz.prog 28 := deep_law_laid laidS (m := 2) (by omega) rowS ktS wideS
theorem keyedS : Go.Maps.Keyed Tryz.prog 28 := Go.Maps.Keyed.of_law lawS
theorem mapM_some {α β : Type} (f : α → Option β) : ∀ l : List α, (∀ i ∈ l, ∃ y, f i = some y) → ∃ ys, l.mapM f = some ys
  | [], _ => ⟨[], rfl⟩
  | i :: l, h => by
    obtain ⟨y, hy⟩ := h i (by simp)
    obtain ⟨ys, hys⟩ := mapM_some f l fun j hj => h j (by simp [hj])
    exact ⟨y :: ys, by simp [List.mapM_cons, hy, hys]⟩
theorem key_lits (x : Sm) : ∃ ls, Tryz.prog.keyLits (Tryz.prog.types.size + 1) 28 (Value.agg (u8s x.l)).cells.toList = some ls := by
  obtain ⟨m, hm⟩ : ∃ m, Tryz.prog.types.size = m + 1 := ⟨Tryz.prog.types.size - 1, by have : 0 < Tryz.prog.types.size := of_decide_eq_true (by kernel_rfl); omega⟩
  have hc : Tryz.prog.cellsOf 28 = 32 := by kernel_rfl
  have hc1 : Tryz.prog.cellsOf 5 = 1 := by kernel_rfl
  have hl : (Value.agg (u8s x.l)).cells.toList = x.l.map bv := u8s_list _
  rw [hl]
  unfold Program.keyLits
  rw [Tryz.underlying28]
  have hlen : (x.l.map bv).length = 32 := by rw [List.length_map, x.len]
  simp only [hc, hlen, if_true, hc1, Nat.mul_one]
  obtain ⟨ys, hys⟩ := mapM_some (fun i => Tryz.prog.keyLits Tryz.prog.types.size 5 (((x.l.map bv).drop i).take 1)) (List.range 32) fun i hi => by
    have hi := List.mem_range.1 hi
    have hix : i < x.l.length := by rw [x.len]; exact hi
    have hb := x.lt _ (List.getElem_mem hix)
    have e : ((x.l.map bv).drop i).take 1 = [bv x.l[i]] := by
      rw [List.drop_eq_getElem_cons (by rw [List.length_map]; exact hix), List.take_succ_cons, List.take_zero, List.getElem_map]
    rw [e, hm]
    unfold Program.keyLits
    rw [Tryz.underlying5]
    have hw : (Lit.int .u8 (x.l[i] : Int)).wf = true := by
      simp only [Lit.wf, IntKind.min, IntKind.max, IntKind.signed, IntKind.bits]
      simp
      omega
    exact ⟨[.int .u8 (x.l[i] : Int)], by simp [bv, hw]⟩
  exact ⟨ys.flatten, by rw [hys]; rfl⟩
theorem key_sm (x : Sm) : ∃ l, keyOf Tryz.prog 28 (.agg (u8s x.l)) = some l := by
  obtain ⟨ls, h⟩ := key_lits x
  have hk : Tryz.prog.keyType 28 = true := by kernel_rfl
  have hf : (Value.agg (u8s x.l)).formed Tryz.prog 28 = true := by
    have hc : Tryz.prog.cellsOf 28 = 32 := by kernel_rfl
    simp [Value.formed, Tryz.underlying28, hc, u8s_size, x.len]
  unfold keyOf
  rw [Tryz.underlying28]
  simp only [hk, hf, Bool.and_self, if_true, h, Option.map_some]
  exact ⟨_, rfl⟩
/-- The key's letter. -/
noncomputable def klS (x : Sm) : Lit := Classical.choose (key_sm x)
theorem klS_key (x : Sm) : keyOf Tryz.prog 28 (.agg (u8s x.l)) = some (klS x) := Classical.choose_spec (key_sm x)
theorem aggS_inj {x y : Sm} (h : Value.agg (u8s x.l) = .agg (u8s y.l)) : x = y := by
  injection h with h
  have h1 : (u8s x.l).toList = (u8s y.l).toList := by rw [h]
  rw [u8s_list, u8s_list] at h1
  have h2 := congrArg (List.map fun v : Value => match v with | .int _ n => n.toNat | _ => 0) h1
  rw [List.map_map, List.map_map] at h2
  have e : ∀ l : List Nat, l.map ((fun v : Value => match v with | .int _ n => n.toNat | _ => 0) ∘ bv) = l := fun l => by
    induction l with
    | nil => rfl
    | cons a l ih => rw [List.map_cons, ih]; rfl
  rw [e, e] at h2
  cases x; cases y
  simp only at h2
  subst h2
  rfl
theorem plainBool_inv {H : Type} {P : Program} {e : TypeId} (he : P.underlying e = some .bool) {v : Value} {z : DataW H × List MemPlace} (h : plainElem P e v = some z) : ∃ b, v = .bool b ∧ z = (.lit (.bool b), []) := by
  unfold plainElem at h
  rw [he] at h
  cases v <;> simp at h
  exact ⟨_, rfl, h.symm⟩
theorem klS_inj {x y : Sm} (h : klS x = klS y) : x = y := aggS_inj (keyedS.inj (klS_key x) (by rw [h]; exact klS_key y))
theorem klS_ne {x y : Sm} (h : ¬ x = y) : klS x ≠ klS y := fun e => h (klS_inj e)
/-- Block b is a map of at most n entries; just the sums of S are true there. -/
def MapIs (w : World) (b n : Nat) (S : List Sm) : Prop := ∃ D : DataW Unit, w.ownsMap Tryz.prog 28 (plainElem Tryz.prog 4) b n D ∧ Go.Maps.IsMap D ∧ ∀ x : Sm, D.atKey (klS x) (.lit (.bool false)) = .lit (.bool (decide (x ∈ S)))
theorem zeroB (w : World) : (zeroValue 4).run Tryz.prog w = .ok (.bool false) w := by kernel_rfl
theorem MapIs.made (w : World) : MapIs (w.alloc (.map #[] 0)) w.heap.size 0 [] := ⟨.map [], World.ownsMap_made w Tryz.prog 28 _, ⟨[], rfl⟩, fun _ => rfl⟩
theorem MapIs.look {w : World} {b n : Nat} {S : List Sm} (h : MapIs w b n S) (x : Sm) : (Instr.lookup MapSB (.map (some b)) (.agg (u8s x.l)) false).run Tryz.prog w = .ok (.bool (decide (x ∈ S))) w := by
  obtain ⟨D, h1, h2, h3⟩ := h
  obtain ⟨v, ps, hrun, hv⟩ := h1.lookup keyedS Tryz.underlying176 (zeroB w) (plainElem_bool Tryz.underlying4 false) (klS_key x)
  rw [h3 x] at hv
  obtain ⟨c, rfl, hz⟩ := plainBool_inv Tryz.underlying4 hv
  simp only [Prod.mk.injEq, DataW.lit.injEq, Lit.bool.injEq] at hz
  rw [hrun, hz.1]
theorem MapIs.store {w : World} {b n : Nat} {S : List Sm} (h : MapIs w b n S) (hn : n < maxLen) (x : Sm) : ∃ w', (Instr.mapUpdate MapSB (.map (some b)) (.agg (u8s x.l)) (.bool true)).run Tryz.prog w = .ok () w' ∧ MapIs w' b (n + 1) (x :: S) ∧ w.grownBy w' (some b) := by
  obtain ⟨D, h1, h2, h3⟩ := h
  obtain ⟨w', hrun, h4, h5⟩ := h1.update keyedS Tryz.underlying176 hn (klS_key x) (plainElem_bool Tryz.underlying4 true)
  refine ⟨w', hrun, ⟨_, h4, ?_, fun y => ?_⟩, h5⟩
  · exact h2.put _ _
  · by_cases hxy : y = x
    · subst hxy
      rw [Go.Maps.atKey_put_same h2 (keyedS.key (klS_key y))]
      simp
    · rw [Go.Maps.atKey_put_other (klS_ne hxy), h3 y]
      simp [hxy]
end Go.Proofs.YtmefpnklgfhggaaGreatDoor

/- A map of one's own in walks by types. -/
namespace Go.Proofs.YtmefpnklgfhggaaGreatDoor
open Go.RowKit

theorem MapIs.same {w w' : World} {b n : Nat} {S : List Sm} (h : MapIs w b n S) (hb : w'.heap[b]? = w.heap[b]?) : MapIs w' b n S := by
  obtain ⟨D, ⟨es, clock, h1, h2, h3, h4⟩, h5, h6⟩ := h
  exact ⟨D, ⟨es, clock, hb.trans h1, h2, h3, h4⟩, h5, h6⟩
theorem MapIs.obj {w : World} {b n : Nat} {S : List Sm} (h : MapIs w b n S) : ∃ es clock, w.heap[b]? = some (.map es clock) := by
  obtain ⟨D, ⟨es, clock, h1, _⟩, _⟩ := h
  exact ⟨es, clock, h1⟩
theorem MapIs.lt {w : World} {b n : Nat} {S : List Sm} (h : MapIs w b n S) : b < w.heap.size := by
  obtain ⟨es, clock, h1⟩ := h.obj
  exact (Array.getElem?_eq_some_iff.1 h1).1
theorem MapIs.keeps {w w' : World} {b n : Nat} {S : List Sm} {G : List Nat} (h : MapIs w b n S) (k : Keeps G w w') (hG : b ∉ G) : MapIs w' b n S := h.same (k.block b h.lt hG)
/-- A map of one's own is no block of cells. -/
theorem MapIs.ne {w : World} {b n g : Nat} {S : List Sm} {t : TypeId} {cs : Array Value} (h : MapIs w b n S) (hb : Blk w g t cs) : b ≠ g := fun e => by
  subst e
  obtain ⟨es, clock, h1⟩ := h.obj
  unfold Blk at hb
  rw [hb] at h1
  cases h1
/-- A map that is read. -/
def Ty.mapS (b n : Nat) (S : List Sm) : Ty := ⟨fun w v => v = .map (some b) ∧ MapIs w b n S, fun _ => false, fun {w w' v G} ⟨h1, h2⟩ k hA => ⟨h1, h2.keeps k fun hm => by
  obtain ⟨cs, t, fr, h3, _⟩ := hA b hm h2.lt
  obtain ⟨es, clock, h4⟩ := h2.obj
  rw [h4] at h3
  cases h3⟩⟩
theorem cLookS {w0 : World} {Γ : Ctx} {o : Oper} {m x : Operand} {b n : Nat} {S : List Sm} {X : Sm} (ho : o.op = .lookup MapSB m x false) (hm : Has w0 Γ m (Ty.mapS b n S)) (hx : OpT Γ x (Ty.ex (.agg (u8s X.l)))) : OpOk Tryz.prog w0 Γ o (Ty.ex (.bool (decide (X ∈ S)))) :=
  .val fun a w hb hs => by
    obtain ⟨v, h1, rfl, h2⟩ := hm.see hs (by simp [ho, Op.operands]) hb
    obtain ⟨u, h3, h4⟩ := hs x _ (by simp [ho, Op.operands]) hx
    have h4 : u = .agg (u8s X.l) := h4
    refine ⟨_, rfl, ?_⟩
    unfold execOp
    simp [ho, h1, h3, h4, h2.look X]
section
variable {ops : Array Oper} {Q : Exit → Act → World → Prop} {a : Act} {w : World} {o : Oper} {rest : List Oper}
theorem tlMapPut {m x y : Operand} {b n : Nat} {S : List Sm} {X : Sm} (hg : o.guard = none) (hd : o.dst = none) (ho : o.op = .mapUpdate MapSB m x y) (hm : a.eval m = .map (some b)) (hx : a.eval x = .agg (u8s X.l)) (hy : a.eval y = .bool true) (h : MapIs w b n S) (hn : n < maxLen)
    (hk : ∀ w', MapIs w' b (n + 1) (X :: S) → Keeps [b] w w' → wpList Tryz.prog ops Q rest a w') : wpList Tryz.prog ops Q (o :: rest) a w := by
  refine wpList_plain hg fun K hK => ?_
  obtain ⟨w', hrun, h1, h2⟩ := h.store hn X
  unfold Oper.wp execOp
  simp only [ho, hm, hx, hy, Sem.run_bind, hrun, Result.andThen_ok, Sem.run_pure]
  refine hK _ _ ?_
  rw [hd]
  exact hk w' h1 ⟨h2.os, h2.tape, h2.output, h2.size, fun k hkl hkb => h2.block k hkl fun e => hkb (by simp only [Option.some.injEq] at e; simp [e])⟩
/-- Slots of exact values stay in every world. -/
theorem Fr.exs {N : Nat} {Γ : Ctx} {w' : World} (h : Fr N Γ a w) (hx : ∀ (s : Nat) (τ : Ty), look Γ s = some τ → ∃ v, τ = Ty.ex v) : Fr N Γ a w' :=
  ⟨h.size, h.defers, fun s τ hs => by
    obtain ⟨v, h1, h2⟩ := h.val s τ hs
    obtain ⟨u, rfl⟩ := hx s τ hs
    exact ⟨v, h1, h2⟩⟩
theorem run_makeSB (w : World) : (Instr.makeMap MapSB none).run Tryz.prog w = .ok (.map (some w.heap.size)) (w.alloc (.map #[] 0)) := run_makeMap _ w
end
end Go.Proofs.YtmefpnklgfhggaaGreatDoor

/- slices.Index of []int and []bool, Contains, by types. -/
namespace Go.Proofs.YtmefpnklgfhggaaGreatDoor
open Go.RowKit

/-- The first place, or -1. -/
def idxOf (p : Nat → Bool) (n : Nat) : Int := if firstP p 0 n < n then (firstP p 0 n : Int) else -1
theorem idxOf_at {p : Nat → Bool} {n j : Nat} (hj : j < n) (hno : ∀ i, i < j → p i = false) (hp : p j = true) : idxOf p n = (j : Int) := by
  have h1 : firstP p 0 n = j := by
    rcases Nat.lt_trichotomy (firstP p 0 n) j with h | h | h
    · have h2 := firstP_at p n 0 (by omega)
      rw [Nat.zero_add, hno _ h] at h2
      cases h2
    · exact h
    · have h2 := firstP_no p n 0 j h
      rw [Nat.zero_add, hp] at h2
      cases h2
  unfold idxOf
  rw [h1, if_pos hj]
theorem idxOf_no {p : Nat → Bool} {n : Nat} (hno : ∀ i, i < n → p i = false) : idxOf p n = -1 := by
  unfold idxOf
  rw [if_neg]
  intro h
  have h2 := firstP_at p n 0 h
  rw [Nat.zero_add, hno _ h] at h2
  cases h2
theorem idxOf_mem {l : List Nat} {x : Nat} : decide ((0 : Int) ≤ idxOf (fun i => decide (l.getD i 0 = x)) l.length) = decide (x ∈ l) := by
  unfold idxOf
  split
  · rename_i h
    have h2 := firstP_at _ _ _ h
    rw [Nat.zero_add] at h2
    have h3 : l.getD (firstP (fun i => decide (l.getD i 0 = x)) 0 l.length) 0 = x := by simpa using h2
    rw [decide_eq_true (by omega), decide_eq_true]
    rw [← h3]
    exact getD_mem h
  · rename_i h
    have hle := firstP_le (fun i => decide (l.getD i 0 = x)) l.length 0
    have hall := firstP_all (fun i => decide (l.getD i 0 = x)) (k := l.length) (by omega)
    rw [decide_eq_false (by omega), decide_eq_false]
    intro hm
    obtain ⟨i, hi, he⟩ := List.getElem_of_mem hm
    have := hall i hi
    simp [List.getD, List.getElem?_eq_getElem hi, he] at this
theorem cEqlBoolP {P : Program} {w0 : World} {Γ : Ctx} {o : Oper} {t t2 : TypeId} {x y : Operand} {b c : Bool} (ho : o.op = .binOp .eql t x y t2) (hx : OpT Γ x (Ty.ex (.bool b))) (hy : OpT Γ y (Ty.ex (.bool c))) (h : P.underlying t = some .bool) : OpOk P w0 Γ o (Ty.ex (.bool (b == c))) :=
  cBin ho hx hy fun w => by simp [eqGuard, binOp, run_equal_bool w t b c h]
def bvl (b : Bool) : Value := .bool b
theorem getD_dropG {α : Type} (f : α → Value) (d : α) {l : List α} {k : Nat} (h : k < l.length) : (l.map f).drop k = f (l.getD k d) :: (l.map f).drop (k + 1) := by
  rw [List.drop_eq_getElem_cons (by rw [List.length_map]; exact h), List.getElem_map]
  simp [List.getD, List.getElem?_eq_getElem h]
theorem sizeBool : (Tryz.prog.info? 4).map (·.size) = some 1 := by kernel_rfl
theorem sizeInt1 : (Tryz.prog.info? 3).map (·.size) = some 1 := by kernel_rfl
set_option maxRecDepth 100000 in
set_option maxHeartbeats 1000000 in
theorem idxBool_ty (l : List Bool) (x : Bool) (hl : l.length ≤ 1000000) : Fn2 Tryz.prog 105 (Ty.sl 4 l.length (l.map bvl)) (Ty.ex (.bool x)) (Ty.ex (.int .i64 (idxOf (fun i => decide (l.getD i false = x)) l.length))) := by
  refine ⟨fun args w => by kernel_rfl, fun w v u hv hu => ?_⟩
  let TL := Ty.sl 4 l.length (l.map bvl)
  refine enter_ty 19 [Ty.ex v, Ty.ex (.bool x)] Tryz.func105 rfl (by kernel_rfl) ⟨rfl, hu, trivial⟩ fun a hF => ?_
  have hB := Below.refl w.heap.size w
  repeat with_reducible refine wp_seq ?_
  refine' reg_all hF ?_ mixed (by kernel_rfl) ?_
  rotate_left
  · repeat (first | exact Line.nil | ((refine' Line.cons rfl (.run rfl rfl ?_) ?_); (any_goals exact cAssign rfl rfl); rotate_left))
  intro a w1 hF hb hN
  have hBs := hB.size
  replace hB := hB.trans (hb.mono hB.size)
  dsimp only [ext, Option.getD] at hF
  repeat with_reducible first | refine wp_seq ?_ | refine nThen ?_
  have hv1 := TL.below hv hB
  refine' reg_all hF ?_ mixed (by kernel_rfl) ?_
  rotate_left
  · repeat (first | exact Line.nil | ((refine' Line.cons rfl (.run rfl rfl ?_) ?_); (any_goals (first | exact cMove rfl rfl | exact cLenH rfl (.l rfl hv1) (Ty.sl_isSl _ _ _) Tryz.underlying175)); rotate_left))
  intro a w2 hF hb hN
  have hBs := hB.size
  replace hB := hB.trans (hb.mono hB.size)
  dsimp only [ext, Option.getD] at hF
  repeat with_reducible first | refine nThen ?_ | refine wp_block ?_
  refine loop_ty (fun m a wr => ∃ j : Nat, j + m = l.length ∧ Fr 19 [(0, Ty.ex v), (1, Ty.ex (.bool x)), (7, Ty.ex (.int .i64 (l.length : Int))), (8, Ty.ex (.int .i64 (j : Int)))] a wr ∧ Below w.heap.size w wr ∧ ∀ i, i < j → decide (l.getD i false = x) = false) l.length ?_ ?_
  · exact ⟨0, by omega, hF.keep [0, 1, 7, 8], hB, fun i hi => by omega⟩
  clear hF hB hv1
  rintro m a wr ⟨j, hj, hF, hB, hno⟩
  repeat with_reducible refine wp_seq ?_
  refine' reg_all hF ?_ mixed (by kernel_rfl) ?_
  rotate_left
  · repeat (first | exact Line.nil | ((refine' Line.cons rfl (.run rfl rfl ?_) ?_); (any_goals exact cLss rfl rfl rfl); rotate_left))
  intro a w3 hF hb hN
  have hBs := hB.size
  replace hB := hB.trans (hb.mono hB.size)
  dsimp only [ext, Option.getD] at hF
  repeat with_reducible first | refine wp_seq ?_ | refine nThen ?_
  refine cond_ty hF rfl (fun hlt => ?_) (fun hge => ?_)
  · have hlt : j < l.length := by have := of_decide_eq_true hlt; omega
    have hd1 := getD_dropG bvl false hlt
    have hv3 := TL.below hv hB
    repeat with_reducible first | refine wp_seq ?_ | refine nThen ?_ | refine wp_skip ?_ | refine wp_block ?_
    refine' reg_all hF ?_ mixed (by kernel_rfl) ?_
    rotate_left
    · repeat (first | exact Line.nil | ((refine' Line.cons rfl (.run rfl rfl ?_) ?_); (any_goals (first | exact cMove rfl rfl | exact cAssign rfl rfl)); rotate_left))
    intro a w4 hF hb hN
    have hBs := hB.size
    replace hB := hB.trans (hb.mono hB.size)
    dsimp only [ext, Option.getD] at hF
    repeat with_reducible first | refine wp_seq ?_ | refine nThen ?_
    have hv3 := TL.below hv hB
    cases hpj : decide (l.getD j false = x) with
    | true =>
      rw [idxOf_at (p := fun i => decide (l.getD i false = x)) hlt hno hpj]
      refine' reg_all hF ?_ mixed (by kernel_rfl) ?_
      rotate_left
      · repeat (first | exact Line.nil | ((refine' Line.cons rfl (.run rfl rfl ?_) ?_); (any_goals (first | exact cMove rfl rfl | exact cIndexS (k := j) (sz := 1) rfl (.l rfl hv3) rfl Tryz.underlying175 sizeBool hlt (by rw [List.length_map]; omega) | exact cLoad1 (u := bvl (l.getD j false)) rfl (Has.c (.t rfl) (fun W v h => by rw [Nat.mul_one, hd1] at h; exact h)) (pts_at _ _) Tryz.underlying4 rfl | exact OpOk.b (c := true) (cEqlBoolP rfl rfl rfl Tryz.underlying4) (beq_iff_eq.2 (of_decide_eq_true hpj).symm))); rotate_left))
      intro a w5 hF hb hN
      have hBs := hB.size
      replace hB := hB.trans (hb.mono hB.size)
      dsimp only [ext, Option.getD] at hF
      repeat with_reducible refine nThen ?_
      refine cond_t hF rfl ?_
      repeat with_reducible refine wp_seq ?_
      refine' reg_all hF ?_ mixed (by kernel_rfl) ?_
      rotate_left
      · repeat (first | exact Line.nil | ((refine' Line.cons rfl (.run rfl rfl ?_) ?_); (any_goals (first | exact cMove rfl rfl | exact cAssign rfl rfl)); rotate_left))
      intro a w6 hF hb hN
      have hBs := hB.size
      replace hB := hB.trans (hb.mono hB.size)
      dsimp only [ext, Option.getD] at hF
      repeat with_reducible first | refine nThen ?_ | refine wp_ret ?_ | refine rThen ?_ | refine rBlk ?_
      refine ret1 hF rfl rfl fun z hz => ?_
      exact ⟨z, rfl, hz, hB⟩
    | false =>
      refine' reg_all hF ?_ mixed (by kernel_rfl) ?_
      rotate_left
      · repeat (first | exact Line.nil | ((refine' Line.cons rfl (.run rfl rfl ?_) ?_); (any_goals (first | exact cMove rfl rfl | exact cIndexS (k := j) (sz := 1) rfl (.l rfl hv3) rfl Tryz.underlying175 sizeBool hlt (by rw [List.length_map]; omega) | exact cLoad1 (u := bvl (l.getD j false)) rfl (Has.c (.t rfl) (fun W v h => by rw [Nat.mul_one, hd1] at h; exact h)) (pts_at _ _) Tryz.underlying4 rfl | exact OpOk.b (c := false) (cEqlBoolP rfl rfl rfl Tryz.underlying4) (beq_eq_false_iff_ne.2 (fun e => of_decide_eq_false hpj e.symm)))); rotate_left))
      intro a w5 hF hb hN
      have hBs := hB.size
      replace hB := hB.trans (hb.mono hB.size)
      dsimp only [ext, Option.getD] at hF
      repeat with_reducible refine nThen ?_
      refine cond_f hF rfl ?_
      repeat with_reducible first | refine nThen ?_ | refine nBlk ?_ | refine wp_skip ?_
      refine' reg_all hF ?_ mixed (by kernel_rfl) ?_
      rotate_left
      · repeat (first | exact Line.nil | ((refine' Line.cons rfl (.run rfl rfl ?_) ?_); (any_goals (first | exact cMove rfl rfl | exact cAdd (r := ((j + 1 : Nat) : Int)) rfl rfl rfl (by omega))); rotate_left))
      intro a w6 hF hb hN
      have hBs := hB.size
      replace hB := hB.trans (hb.mono hB.size)
      dsimp only [ext, Option.getD] at hF
      repeat with_reducible refine nThen ?_
      refine ⟨m - 1, by omega, j + 1, by omega, hF.keep [0, 1, 7, 8], hB, fun i hi => ?_⟩
      by_cases hij : i = j
      · rw [hij]; exact hpj
      · exact hno i (by omega)
  have hge : ¬ j < l.length := by have := of_decide_eq_false hge; omega
  rw [idxOf_no (p := fun i => decide (l.getD i false = x)) (n := l.length) (fun i hi => hno i (by omega))]
  repeat with_reducible first | refine wp_seq ?_ | refine nThen ?_ | refine wp_exit ?_ | refine xThen ?_ | refine xHere ?_
  refine' reg_all hF ?_ mixed (by kernel_rfl) ?_
  rotate_left
  · repeat (first | exact Line.nil | ((refine' Line.cons rfl (.run rfl rfl ?_) ?_); (any_goals exact cAssign rfl rfl); rotate_left))
  intro a w4 hF hb hN
  have hBs := hB.size
  replace hB := hB.trans (hb.mono hB.size)
  dsimp only [ext, Option.getD] at hF
  repeat with_reducible first | refine nThen ?_ | refine wp_ret ?_
  refine ret1 hF rfl rfl fun z hz => ?_
  exact ⟨z, rfl, hz, hB⟩
set_option maxRecDepth 100000 in
set_option maxHeartbeats 1000000 in
theorem idxInt_ty (l : List Nat) (x : Nat) (hl : l.length ≤ 1000000) : Fn2 Tryz.prog 149 (Ty.sl 3 l.length (l.map ivn)) (Ty.ex (.int .i64 (x : Int))) (Ty.ex (.int .i64 (idxOf (fun i => decide (l.getD i 0 = x)) l.length))) := by
  refine ⟨fun args w => by kernel_rfl, fun w v u hv hu => ?_⟩
  let TL := Ty.sl 3 l.length (l.map ivn)
  refine enter_ty 19 [Ty.ex v, Ty.ex (.int .i64 (x : Int))] Tryz.func149 rfl (by kernel_rfl) ⟨rfl, hu, trivial⟩ fun a hF => ?_
  have hB := Below.refl w.heap.size w
  repeat with_reducible refine wp_seq ?_
  refine' reg_all hF ?_ mixed (by kernel_rfl) ?_
  rotate_left
  · repeat (first | exact Line.nil | ((refine' Line.cons rfl (.run rfl rfl ?_) ?_); (any_goals exact cAssign rfl rfl); rotate_left))
  intro a w1 hF hb hN
  have hBs := hB.size
  replace hB := hB.trans (hb.mono hB.size)
  dsimp only [ext, Option.getD] at hF
  repeat with_reducible first | refine wp_seq ?_ | refine nThen ?_
  have hv1 := TL.below hv hB
  refine' reg_all hF ?_ mixed (by kernel_rfl) ?_
  rotate_left
  · repeat (first | exact Line.nil | ((refine' Line.cons rfl (.run rfl rfl ?_) ?_); (any_goals (first | exact cMove rfl rfl | exact cLenH rfl (.l rfl hv1) (Ty.sl_isSl _ _ _) Tryz.underlying33)); rotate_left))
  intro a w2 hF hb hN
  have hBs := hB.size
  replace hB := hB.trans (hb.mono hB.size)
  dsimp only [ext, Option.getD] at hF
  repeat with_reducible first | refine nThen ?_ | refine wp_block ?_
  refine loop_ty (fun m a wr => ∃ j : Nat, j + m = l.length ∧ Fr 19 [(0, Ty.ex v), (1, Ty.ex (.int .i64 (x : Int))), (7, Ty.ex (.int .i64 (l.length : Int))), (8, Ty.ex (.int .i64 (j : Int)))] a wr ∧ Below w.heap.size w wr ∧ ∀ i, i < j → decide (l.getD i 0 = x) = false) l.length ?_ ?_
  · exact ⟨0, by omega, hF.keep [0, 1, 7, 8], hB, fun i hi => by omega⟩
  clear hF hB hv1
  rintro m a wr ⟨j, hj, hF, hB, hno⟩
  repeat with_reducible refine wp_seq ?_
  refine' reg_all hF ?_ mixed (by kernel_rfl) ?_
  rotate_left
  · repeat (first | exact Line.nil | ((refine' Line.cons rfl (.run rfl rfl ?_) ?_); (any_goals exact cLss rfl rfl rfl); rotate_left))
  intro a w3 hF hb hN
  have hBs := hB.size
  replace hB := hB.trans (hb.mono hB.size)
  dsimp only [ext, Option.getD] at hF
  repeat with_reducible first | refine wp_seq ?_ | refine nThen ?_
  refine cond_ty hF rfl (fun hlt => ?_) (fun hge => ?_)
  · have hlt : j < l.length := by have := of_decide_eq_true hlt; omega
    have hd1 := getD_dropG ivn 0 hlt
    have hv3 := TL.below hv hB
    repeat with_reducible first | refine wp_seq ?_ | refine nThen ?_ | refine wp_skip ?_ | refine wp_block ?_
    refine' reg_all hF ?_ mixed (by kernel_rfl) ?_
    rotate_left
    · repeat (first | exact Line.nil | ((refine' Line.cons rfl (.run rfl rfl ?_) ?_); (any_goals (first | exact cMove rfl rfl | exact cAssign rfl rfl)); rotate_left))
    intro a w4 hF hb hN
    have hBs := hB.size
    replace hB := hB.trans (hb.mono hB.size)
    dsimp only [ext, Option.getD] at hF
    repeat with_reducible first | refine wp_seq ?_ | refine nThen ?_
    have hv3 := TL.below hv hB
    cases hpj : decide (l.getD j 0 = x) with
    | true =>
      rw [idxOf_at (p := fun i => decide (l.getD i 0 = x)) hlt hno hpj]
      refine' reg_all hF ?_ mixed (by kernel_rfl) ?_
      rotate_left
      · repeat (first | exact Line.nil | ((refine' Line.cons rfl (.run rfl rfl ?_) ?_); (any_goals (first | exact cMove rfl rfl | exact cIndexS (k := j) (sz := 1) rfl (.l rfl hv3) rfl Tryz.underlying33 sizeInt1 hlt (by rw [List.length_map]; omega) | exact cLoad1 (u := ivn (l.getD j 0)) rfl (Has.c (.t rfl) (fun W v h => by rw [Nat.mul_one, hd1] at h; exact h)) (pts_at _ _) Tryz.underlying3 rfl | exact OpOk.b (c := true) (cEql rfl rfl rfl) (decide_eq_true (congrArg Nat.cast (of_decide_eq_true hpj)).symm))); rotate_left))
      intro a w5 hF hb hN
      have hBs := hB.size
      replace hB := hB.trans (hb.mono hB.size)
      dsimp only [ext, Option.getD] at hF
      repeat with_reducible refine nThen ?_
      refine cond_t hF rfl ?_
      repeat with_reducible refine wp_seq ?_
      refine' reg_all hF ?_ mixed (by kernel_rfl) ?_
      rotate_left
      · repeat (first | exact Line.nil | ((refine' Line.cons rfl (.run rfl rfl ?_) ?_); (any_goals (first | exact cMove rfl rfl | exact cAssign rfl rfl)); rotate_left))
      intro a w6 hF hb hN
      have hBs := hB.size
      replace hB := hB.trans (hb.mono hB.size)
      dsimp only [ext, Option.getD] at hF
      repeat with_reducible first | refine nThen ?_ | refine wp_ret ?_ | refine rThen ?_ | refine rBlk ?_
      refine ret1 hF rfl rfl fun z hz => ?_
      exact ⟨z, rfl, hz, hB⟩
    | false =>
      refine' reg_all hF ?_ mixed (by kernel_rfl) ?_
      rotate_left
      · repeat (first | exact Line.nil | ((refine' Line.cons rfl (.run rfl rfl ?_) ?_); (any_goals (first | exact cMove rfl rfl | exact cIndexS (k := j) (sz := 1) rfl (.l rfl hv3) rfl Tryz.underlying33 sizeInt1 hlt (by rw [List.length_map]; omega) | exact cLoad1 (u := ivn (l.getD j 0)) rfl (Has.c (.t rfl) (fun W v h => by rw [Nat.mul_one, hd1] at h; exact h)) (pts_at _ _) Tryz.underlying3 rfl | exact OpOk.b (c := false) (cEql rfl rfl rfl) (decide_eq_false (fun e => of_decide_eq_false hpj (Int.ofNat.inj e).symm)))); rotate_left))
      intro a w5 hF hb hN
      have hBs := hB.size
      replace hB := hB.trans (hb.mono hB.size)
      dsimp only [ext, Option.getD] at hF
      repeat with_reducible refine nThen ?_
      refine cond_f hF rfl ?_
      repeat with_reducible first | refine nThen ?_ | refine nBlk ?_ | refine wp_skip ?_
      refine' reg_all hF ?_ mixed (by kernel_rfl) ?_
      rotate_left
      · repeat (first | exact Line.nil | ((refine' Line.cons rfl (.run rfl rfl ?_) ?_); (any_goals (first | exact cMove rfl rfl | exact cAdd (r := ((j + 1 : Nat) : Int)) rfl rfl rfl (by omega))); rotate_left))
      intro a w6 hF hb hN
      have hBs := hB.size
      replace hB := hB.trans (hb.mono hB.size)
      dsimp only [ext, Option.getD] at hF
      repeat with_reducible refine nThen ?_
      refine ⟨m - 1, by omega, j + 1, by omega, hF.keep [0, 1, 7, 8], hB, fun i hi => ?_⟩
      by_cases hij : i = j
      · rw [hij]; exact hpj
      · exact hno i (by omega)
  have hge : ¬ j < l.length := by have := of_decide_eq_false hge; omega
  rw [idxOf_no (p := fun i => decide (l.getD i 0 = x)) (n := l.length) (fun i hi => hno i (by omega))]
  repeat with_reducible first | refine wp_seq ?_ | refine nThen ?_ | refine wp_exit ?_ | refine xThen ?_ | refine xHere ?_
  refine' reg_all hF ?_ mixed (by kernel_rfl) ?_
  rotate_left
  · repeat (first | exact Line.nil | ((refine' Line.cons rfl (.run rfl rfl ?_) ?_); (any_goals exact cAssign rfl rfl); rotate_left))
  intro a w4 hF hb hN
  have hBs := hB.size
  replace hB := hB.trans (hb.mono hB.size)
  dsimp only [ext, Option.getD] at hF
  repeat with_reducible first | refine nThen ?_ | refine wp_ret ?_
  refine ret1 hF rfl rfl fun z hz => ?_
  exact ⟨z, rfl, hz, hB⟩
set_option maxRecDepth 100000 in
theorem contInt_ty (l : List Nat) (x : Nat) (hl : l.length ≤ 1000000) : Fn2 Tryz.prog 133 (Ty.sl 3 l.length (l.map ivn)) (Ty.ex (.int .i64 (x : Int))) (Ty.ex (.bool (decide (x ∈ l)))) := by
  refine ⟨fun args w => by kernel_rfl, fun w v u hv hu => ?_⟩
  have hI := idxInt_ty l x hl
  have hM := idxOf_mem (l := l) (x := x)
  let TL := Ty.sl 3 l.length (l.map ivn)
  refine enter_ty 9 [Ty.ex v, Ty.ex (.int .i64 (x : Int))] Tryz.func133 rfl (by kernel_rfl) ⟨rfl, hu, trivial⟩ fun a hF => ?_
  have hB := Below.refl w.heap.size w
  repeat with_reducible refine wp_seq ?_
  refine' reg_all hF ?_ mixed (by kernel_rfl) ?_
  rotate_left
  · repeat (first | exact Line.nil | ((refine' Line.cons rfl (.run rfl rfl ?_) ?_); (any_goals exact cAssign rfl rfl); rotate_left))
  intro a w1 hF hb hN
  have hBs := hB.size
  replace hB := hB.trans (hb.mono hB.size)
  dsimp only [ext, Option.getD] at hF
  repeat with_reducible first | refine wp_seq ?_ | refine nThen ?_
  have hv1 := TL.below hv hB
  refine' reg_all hF ?_ mixed (by kernel_rfl) ?_
  rotate_left
  · repeat (first | exact Line.nil | ((refine' Line.cons rfl (.run rfl rfl ?_) ?_); (any_goals (first | exact cMove rfl rfl | exact cAssign rfl rfl | exact cCallH2 rfl (.l rfl hv1) (.t rfl) hI | exact OpOk.b (cGeq rfl rfl rfl) hM)); rotate_left))
  intro a w2 hF hb hN
  have hBs := hB.size
  replace hB := hB.trans (hb.mono hB.size)
  dsimp only [ext, Option.getD] at hF
  repeat with_reducible first | refine nThen ?_ | refine wp_ret ?_
  refine ret1 hF rfl rfl fun z hz => ?_
  exact ⟨z, rfl, hz, hB⟩
end Go.Proofs.YtmefpnklgfhggaaGreatDoor
