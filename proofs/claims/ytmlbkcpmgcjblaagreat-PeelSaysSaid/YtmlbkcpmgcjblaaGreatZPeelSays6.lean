/- Joined: RPeelC, TabS, TabT, SetL, SetM, SetS, RPeelD, Row, Row2, RowS, RowC, PeelO, OwnS, RPeelE. -/
import Derived.ProofKit
import Derived.OpenShut
import Derived.ShutString
import Derived.ChangeOld
import Derived.SizedLaws
import Derived.ChangeSlices
import Derived.Carry
import Derived.Deep.Slices
import Derived.Deep.Strs
import Derived.Test.YtmlbkcpmgcjblaaGreatZPeelSays5
/- The document's Peel, by types. -/
namespace Go.Proofs.YtmlbkcpmgcjblaaGreat
open Go.RowKit

section
variable {P : Program} {w0 : World} {Γ : Ctx} {o : Oper}
/-- A value is laid into a block of the call's own. -/
theorem cBoxVar {t : TypeId} {x : Operand} {v : Value} (ho : o.op = .box t x) (hx : OpT Γ x (Ty.ex v)) : OpOk P w0 Γ o (Ty.var w0 t v.cells) :=
  .new fun a w hb hs => by
    obtain ⟨u, h1, h2⟩ := hs x _ (by simp [ho, Op.operands]) hx
    have h2 : u = v := h2
    subst h2
    refine ⟨.pointer (some ⟨w.heap.size, 0, none⟩), w.alloc (.cells u.cells t), ⟨w.heap.size, rfl, hb.size, Blk.new w _ _⟩, ((Keeps.refl [] w).alloc (.cells u.cells t)).below, ?_⟩
    unfold execOp
    simp only [ho, h1]
    simp [Instr.box, newVar, newRow, go_sem]
end
theorem at5R {W : World} {g : Nat} {x : Sm} (h : Blk W g 77 (u8s x.l)) : (Ty.at_ 77 x.enc).p W (.pointer (some ⟨g, 0, none⟩)) := by
  have h := blk_at h
  rwa [u8s_list] at h
/-- The state of the document's peeling. -/
structure RPeel (w wr : World) (g1 g2 seed : Nat) (s p q : Value) (st : Pst) (Sp Sq : List Nat) : Prop where
  blk : Blk wr g1 44 #[.int .u64 (seed : Int), s]
  res : Blk wr g2 ResTR #[nilS, nilS, .int .u64 0, nilS]
  tab : (Ty.cls 79 st.L).p wr s
  plus : Seg wr 77 32 p st.plus.length (flat st.plus) Sp
  minus : Seg wr 77 32 q st.minus.length (flat st.minus) Sq
  own1 : w.heap.size ≤ g1
  own2 : w.heap.size ≤ g2
  ownp : ∀ y ∈ Sp, w.heap.size ≤ y
  ownq : ∀ y ∈ Sq, w.heap.size ≤ y
  apart : ∀ y ∈ Sp, y ∉ Sq
theorem RPeel.below {w wr w' : World} {g1 g2 seed : Nat} {s p q : Value} {st : Pst} {Sp Sq : List Nat} (h : RPeel w wr g1 g2 seed s p q st Sp Sq) (hb : Below wr.heap.size wr w') : RPeel w w' g1 g2 seed s p q st Sp Sq :=
  ⟨h.blk.below hb, h.res.below hb, (Ty.cls 79 st.L).below h.tab hb, h.plus.below hb, h.minus.below hb, h.own1, h.own2, h.ownp, h.ownq, h.apart⟩
section
variable {w wr w' : World} {g1 g2 seed : Nat} {s s' p q p' : Value} {st : Pst} {Sp Sq S' : List Nat} {x : Sm} {L' : List Cl} {o : Bool}
theorem RPeel.app_p (h : RPeel w wr g1 g2 seed s p q st Sp Sq) (k : Keeps Sp wr w') (hs : Seg w' 77 32 p' (st.plus.length + 1) (flat (st.plus ++ [x])) S') (hS : S' = Sp ∨ S' = [wr.heap.size]) (hw : w.heap.size ≤ wr.heap.size) : RPeel w w' g1 g2 seed s p' q ⟨st.L, st.plus ++ [x], st.minus, o⟩ S' Sq := by
  refine ⟨h.blk.keeps k (blk_apart h.plus h.blk (by decide)), h.res.keeps k (blk_apart h.plus h.res (by decide)), (Ty.cls 79 st.L).keepSeg h.tab k h.plus rfl, ?_, h.minus.keeps k (fun y hy hm => h.apart y hm hy), h.own1, h.own2, fun y hy => ?_, h.ownq, fun y hy hm => ?_⟩
  · rwa [show (st.plus ++ [x]).length = st.plus.length + 1 by simp]
  · rcases hS with rfl | rfl
    · exact h.ownp y hy
    · simp only [List.mem_singleton] at hy; omega
  · rcases hS with rfl | rfl
    · exact h.apart y hy hm
    · have := h.minus.lt y hm
      simp only [List.mem_singleton] at hy; omega
theorem RPeel.app_q (h : RPeel w wr g1 g2 seed s p q st Sp Sq) (k : Keeps Sq wr w') (hs : Seg w' 77 32 p' (st.minus.length + 1) (flat (st.minus ++ [x])) S') (hS : S' = Sq ∨ S' = [wr.heap.size]) (hw : w.heap.size ≤ wr.heap.size) : RPeel w w' g1 g2 seed s p p' ⟨st.L, st.plus, st.minus ++ [x], o⟩ Sp S' := by
  refine ⟨h.blk.keeps k (blk_apart h.minus h.blk (by decide)), h.res.keeps k (blk_apart h.minus h.res (by decide)), (Ty.cls 79 st.L).keepSeg h.tab k h.minus rfl, h.plus.keeps k (fun y hy hm => h.apart y hy hm), ?_, h.own1, h.own2, h.ownp, fun y hy => ?_, fun y hy hm => ?_⟩
  · rwa [show (st.minus ++ [x]).length = st.minus.length + 1 by simp]
  · rcases hS with rfl | rfl
    · exact h.ownq y hy
    · simp only [List.mem_singleton] at hy; omega
  · rcases hS with rfl | rfl
    · exact h.apart y hy hm
    · have := h.plus.lt y hy
      simp only [List.mem_singleton] at hm; omega
theorem RPeel.put (h : RPeel w wr g1 g2 seed s p q st Sp Sq) (k : Keeps [g1] wr w') (hb : Blk w' g1 44 #[.int .u64 (seed : Int), s']) (ht : (Ty.cls 79 L').p w' s') : RPeel w w' g1 g2 seed s' p q ⟨L', st.plus, st.minus, o⟩ Sp Sq :=
  ⟨hb, h.res.keeps k (by simpa using h.res.ne h.blk (by decide)), ht, h.plus.keeps k (seg_far h.plus h.blk (by decide)), h.minus.keeps k (seg_far h.minus h.blk (by decide)), h.own1, h.own2, h.ownp, h.ownq, h.apart⟩
end
set_option maxRecDepth 100000 in
set_option maxHeartbeats 8000000 in
theorem rpeel_ty (seed : Nat) (L : List Cl) (hsd : seed < 18446744073709551616) : Fn1 Tryz.prog 11 (Ty.tab 79 seed L) (Ty.tup [Ty.resR (resP seed L) (resM seed L) (resS seed L) (resL seed L), Ty.ex (.int .i64 (resN seed L))]) := by
  refine ⟨fun args w => by kernel_rfl, fun w v ⟨s, hv, hs⟩ => ?_⟩
  subst hv
  have hG := goodCells_ty (L.length : Int)
  refine enter_ty 76 [Ty.ex (.agg #[.int .u64 (seed : Int), s])] Tryz.func11 rfl (by kernel_rfl) ⟨rfl, trivial⟩ fun a hF => ?_
  have hB := Below.refl w.heap.size w
  let TL := Ty.cls 79 L
  repeat with_reducible refine wp_seq ?_
  refine' reg_all hF ?_ mixed (by kernel_rfl) ?_
  rotate_left
  · repeat (first
        | exact Line.nil
        | (refine' Line.cons rfl (.new rfl rfl (run_alloc_i infoResR) rfl) ?_; rotate_left)
        | ((refine' Line.cons rfl (.run rfl rfl ?_) ?_)
           any_goals (first | exact cAssign rfl rfl | exact cBoxVar rfl rfl)
           rotate_left))
  intro a w1 hF hb hN
  have hBs := hB.size
  replace hB := hB.trans (hb.mono hB.size)
  dsimp only [ext, Option.getD] at hF
  repeat with_reducible first | refine wp_seq ?_ | refine nThen ?_
  obtain ⟨z, ⟨g2, rfl, hg2, hb2⟩, hF⟩ := hF.open (s := 2) rfl
  have hg2 : w.heap.size ≤ g2 := hg2
  obtain ⟨z, ⟨g1, rfl, hg1, hb1⟩, hF⟩ := hF.open (s := 1) rfl
  have hg1 : w.heap.size ≤ g1 := hg1
  replace hb1 : Blk w1 g1 44 #[.int .u64 (seed : Int), s] := by
    have e : (Value.agg #[.int .u64 (seed : Int), s]).cells = #[.int .u64 (seed : Int), s] := rfl
    rwa [e] at hb1
  have hs1 := TL.below hs hB
  have hat := tblk_at hb1
  by_cases hok : goodN (L.length : Int) = true
  rotate_left
  · have hok : goodN (L.length : Int) = false := by simpa using hok
    have hpk : peelOk seed L = false := by unfold peelOk; rw [hok]; rfl
    rw [show resP seed L = [] by unfold resP; rw [hpk]; rfl, show resM seed L = [] by unfold resM; rw [hpk]; rfl, show resS seed L = 0 by unfold resS; rw [hok]; rfl, show resL seed L = [] by unfold resL; rw [hok]; rfl, show resN seed L = 1 by unfold resN; rw [hok]; rfl]
    rw [hok] at hG
    refine' reg_all hF ?_ mixed (by kernel_rfl) ?_
    rotate_left
    · repeat (first | exact Line.nil | ((refine' Line.cons rfl (.run rfl rfl ?_) ?_); (any_goals (first | exact cNot rfl rfl | exact cFldL83 rfl (.l rfl hat) | exact cRowOf83 rfl (.t rfl) | exact cLenH rfl (.l rfl hs1) (Ty.sl_isSl _ _ _) Tryz.underlying42 | exact cCall1 rfl rfl hG)); rotate_left))
    intro a w2 hF hb hN
    have hBs := hB.size
    replace hB := hB.trans (hb.mono hB.size)
    dsimp only [ext, Option.getD] at hF
    repeat with_reducible refine nThen ?_
    refine cond_t hF rfl ?_
    repeat with_reducible refine wp_seq ?_
    replace hb2 := hb2.below hb
    refine' region_ty 1 mixed (by kernel_rfl) hF ?_ ?_
    rotate_left
    · simp only [List.take_succ_cons, List.take_zero]
      repeat (first | exact Line.nil | ((refine' Line.cons rfl (.run rfl rfl ?_) ?_); (any_goals exact cBuildE rfl (fun w => buildR0R w)); rotate_left))
    intro a w3 hF hb hN
    have hBs := hB.size
    replace hB := hB.trans (hb.mono hB.size)
    simp only [List.take_succ_cons, List.take_zero, List.drop_succ_cons, List.drop_zero] at hF hN ⊢
    dsimp only [ext, Option.getD] at hF
    replace hb2 := hb2.below hb
    refine tlStoreV (Δ := [(2, Ty.ex (.pointer (some ⟨g2, 0, none⟩)))]) hF rfl rfl rfl rfl (hF.getEx (s := 15) rfl) hb2 rfl sizeResR (by simp [Value.cells, Value.oneCell']) (hF.keep [2]) rfl ?_
    intro w4 hF hb2 hkx
    replace hB := below_own hB hkx (by intro y hy; simp only [List.mem_singleton] at hy; omega)
    refine' tlOp hF rfl rfl rfl ?_ ?_
    rotate_left
    · exact cAssign rfl rfl
    intro a w5 hF hb
    have hBs := hB.size
    replace hB := hB.trans (hb.mono hB.size)
    try (refine wpList_nil ?_)
    repeat with_reducible first | refine nThen ?_ | refine wp_ret ?_ | refine rThen ?_
    refine retCell2 hF rfl rfl rfl (hb2.below hb) Tryz.underlying53 rfl sizeResR ?_
    exact ⟨_, rfl, ⟨[_, _], rfl, ⟨nilS, nilS, nilS, rfl, sl_nil _ _, sl_nil _ _, sl_nil _ _⟩, rfl, trivial⟩, hB⟩
  rw [hok] at hG
  refine' reg_all hF ?_ mixed (by kernel_rfl) ?_
  rotate_left
  · repeat (first | exact Line.nil | ((refine' Line.cons rfl (.run rfl rfl ?_) ?_); (any_goals (first | exact cNot rfl rfl | exact cFldL83 rfl (.l rfl hat) | exact cRowOf83 rfl (.t rfl) | exact cLenH rfl (.l rfl hs1) (Ty.sl_isSl _ _ _) Tryz.underlying42 | exact cCall1 rfl rfl hG)); rotate_left))
  intro a w2 hF hb hN
  have hBs := hB.size
  replace hB := hB.trans (hb.mono hB.size)
  dsimp only [ext, Option.getD] at hF
  repeat with_reducible refine nThen ?_
  refine cond_f hF rfl ?_
  repeat with_reducible first | refine wp_seq ?_ | refine nThen ?_ | refine wp_skip ?_
  replace hb1 := hb1.below hb
  replace hb2 := hb2.below hb
  replace hs1 := TL.below hs1 hb
  obtain ⟨N, hN', hN1, hN2⟩ := goodN_rng hok
  have hLl : L.length ≤ 1024 := by omega
  have hM : RPeel w w2 g1 g2 seed s nilS nilS ⟨L, [], [], true⟩ [] [] := ⟨hb1, hb2, hs1, Seg.nil _ _ _, Seg.nil _ _ _, hg1, hg2, by simp, by simp, by simp⟩
  clear hat hs hb1 hb2 hs1 hG
  refine' reg_all hF ?_ mixed (by kernel_rfl) ?_
  rotate_left
  · repeat (first | exact Line.nil | ((refine' Line.cons rfl (.run rfl rfl ?_) ?_); (any_goals exact cAssign rfl rfl); rotate_left))
  intro a w3 hF hb hN
  have hBs := hB.size
  replace hB := hB.trans (hb.mono hB.size)
  dsimp only [ext, Option.getD] at hF
  repeat with_reducible first | refine wp_seq ?_ | refine nThen ?_
  replace hM := hM.below hb
  refine' reg_all hF ?_ mixed (by kernel_rfl) ?_
  rotate_left
  · repeat (first | exact Line.nil | ((refine' Line.cons rfl (.run rfl rfl ?_) ?_); (any_goals exact cAssign rfl rfl); rotate_left))
  intro a w4 hF hb hN
  have hBs := hB.size
  replace hB := hB.trans (hb.mono hB.size)
  dsimp only [ext, Option.getD] at hF
  repeat with_reducible first | refine wp_seq ?_ | refine nThen ?_
  replace hM := hM.below hb
  refine' reg_all hF ?_ mixed (by kernel_rfl) ?_
  rotate_left
  · repeat (first | exact Line.nil | ((refine' Line.cons rfl (.run rfl rfl ?_) ?_); (any_goals exact cAssign rfl rfl); rotate_left))
  intro a w5 hF hb hN
  have hBs := hB.size
  replace hB := hB.trans (hb.mono hB.size)
  dsimp only [ext, Option.getD] at hF
  repeat with_reducible first | refine nThen ?_ | refine wp_block ?_
  replace hM := hM.below hb
  refine wp_mono (Q := fun e a w' => e = .exit 0 ∧ ∃ s p q Sp Sq, Fr 76 [(1, Ty.ex (.pointer (some ⟨g1, 0, none⟩))), (2, Ty.ex (.pointer (some ⟨g2, 0, none⟩))), (4, Ty.ex p), (5, Ty.ex q), (6, Ty.ex (.bool (!(peelS seed L).once)))] a w' ∧ Below w.heap.size w w' ∧ RPeel w w' g1 g2 seed s p q (peelS seed L) Sp Sq) ?_ ?_
  · refine loop_ty (fun m a wr => ∃ (n : Nat) (st : Pst) (s p q : Value) (Sp Sq : List Nat), n + m = 1025 ∧ Fr 76 [(1, Ty.ex (.pointer (some ⟨g1, 0, none⟩))), (2, Ty.ex (.pointer (some ⟨g2, 0, none⟩))), (4, Ty.ex p), (5, Ty.ex q), (6, Ty.ex (.bool (!st.once))), (7, Ty.ex (.int .i64 (n : Int)))] a wr ∧ Below w.heap.size w wr ∧ RPeel w wr g1 g2 seed s p q st Sp Sq ∧ st.L.length = L.length ∧ Pst.run seed m st = peelS seed L ∧ st.plus.length + st.minus.length = n) 1025 ?_ ?_
    · exact ⟨0, ⟨L, [], [], true⟩, s, nilS, nilS, [], [], rfl, hF.keep [1, 2, 4, 5, 6, 7], hB, hM, rfl, rfl, rfl⟩
    clear hF hB hM hb hBs hg1 hg2
    rintro m a wr ⟨n, st, s, p, q, Sp, Sq, hn, hF, hB, hM, hlen, hrun, hcnt⟩
    repeat with_reducible refine wp_seq ?_
    refine' reg_all hF ?_ mixed (by kernel_rfl) ?_
    rotate_left
    · repeat (first | exact Line.nil | ((refine' Line.cons rfl (.run rfl rfl ?_) ?_); (any_goals (first | exact cMove rfl rfl | exact cLeq rfl rfl rfl)); rotate_left))
    intro a w10 hF hb hN
    have hBs := hB.size
    replace hB := hB.trans (hb.mono hB.size)
    dsimp only [ext, Option.getD] at hF
    repeat with_reducible refine nThen ?_
    replace hM := hM.below hb
    refine cond_ty hF rfl (fun hle => ?_) (fun hgt => ?_)
    · have hle : n ≤ 1024 := by have := of_decide_eq_true hle; omega
      have hNx := rnext_ty seed st.L (by omega) hsd
      have htb : (Ty.tab 79 seed st.L).p w10 (.agg #[.int .u64 (seed : Int), s]) := ⟨s, rfl, hM.tab⟩
      have hat := tblk_at hM.blk
      unfold nextN at hNx
      by_cases hlt : nextI seed st.L < st.L.length
      · rw [if_pos hlt] at hNx
        have hrn := run_next (m := m - 1) (s := st) hlt
        rw [show m - 1 + 1 = m by omega, hrun] at hrn
        unfold Pst.take at hrn
        dsimp only at hrn
        generalize nextI seed st.L = i at *
        repeat with_reducible first | refine wp_seq ?_ | refine nThen ?_ | refine wp_skip ?_ | refine wp_block ?_
        refine' reg_all hF ?_ mixed (by kernel_rfl) ?_
        rotate_left
        · repeat (first | exact Line.nil | ((refine' Line.cons rfl (.run rfl rfl ?_) ?_); (any_goals (first | exact cAssign rfl rfl | exact cLoadT83 rfl (.l rfl hat) | exact cCallH1 rfl (.l rfl htb) hNx)); rotate_left))
        intro a w11 hF hb hN
        have hBs := hB.size
        replace hB := hB.trans (hb.mono hB.size)
        dsimp only [ext, Option.getD] at hF
        repeat with_reducible first | refine wp_seq ?_ | refine nThen ?_
        replace hM := hM.below hb
        refine' reg_all hF ?_ mixed (by kernel_rfl) ?_
        rotate_left
        · repeat (first | exact Line.nil | ((refine' Line.cons rfl (.run rfl rfl ?_) ?_); (any_goals (first | exact cMove rfl rfl | exact cLss rfl rfl rfl)); rotate_left))
        intro a w12 hF hb hN
        have hBs := hB.size
        replace hB := hB.trans (hb.mono hB.size)
        dsimp only [ext, Option.getD] at hF
        repeat with_reducible refine nThen ?_
        replace hM := hM.below hb
        refine cond_ty hF rfl (fun hneg => ?_) (fun _ => ?_)
        · exact absurd (of_decide_eq_true hneg) (by omega)
        obtain ⟨x, hx⟩ : ∃ x, (st.L.getD i default).key = x := ⟨_, rfl⟩
        rw [hx] at hrn
        repeat with_reducible first | refine wp_seq ?_ | refine nThen ?_ | refine wp_skip ?_
        refine wp_region_lit ?_
        refine' tlOp hF rfl rfl rfl ?_ ?_
        rotate_left
        · exact cFldL83 rfl (.l rfl (tblk_at hM.blk))
        intro a w13 hF hb
        have hBs := hB.size
        replace hB := hB.trans (hb.mono hB.size)
        try (refine wpList_nil ?_)
        replace hM := hM.below hb
        refine' tlOp hF rfl rfl rfl ?_ ?_
        rotate_left
        · exact cRowOf83 rfl (.t rfl)
        intro a w14 hF hb
        have hBs := hB.size
        replace hB := hB.trans (hb.mono hB.size)
        try (refine wpList_nil ?_)
        replace hM := hM.below hb
        refine' tlOp hF rfl rfl rfl ?_ ?_
        rotate_left
        · exact cMove rfl rfl
        intro a w15 hF hb
        have hBs := hB.size
        replace hB := hB.trans (hb.mono hB.size)
        try (refine wpList_nil ?_)
        replace hM := hM.below hb
        refine' tlOp hF rfl rfl rfl ?_ ?_
        rotate_left
        · exact cIndexCl (k := i) rfl (.l rfl hM.tab) rfl Tryz.underlying42 info49 hlt
        intro a w16 hF hb
        have hBs := hB.size
        replace hB := hB.trans (hb.mono hB.size)
        try (refine wpList_nil ?_)
        replace hM := hM.below hb
        refine' tlOp hF rfl rfl rfl ?_ ?_
        rotate_left
        · exact cFldK49 rfl (.t rfl)
        intro a w17 hF hb
        have hBs := hB.size
        replace hB := hB.trans (hb.mono hB.size)
        try (refine wpList_nil ?_)
        replace hM := hM.below hb
        rw [hx] at hF
        refine' tlOp hF rfl rfl rfl ?_ ?_
        rotate_left
        · exact cLoadSum rfl (.t rfl) Tryz.underlying77 sizeR
        intro a w18 hF hb
        have hBs := hB.size
        replace hB := hB.trans (hb.mono hB.size)
        try (refine wpList_nil ?_)
        replace hM := hM.below hb
        have hSp := hM.plus.lt
        have hSq := hM.minus.lt
        have hw18 := hB.size
        refine' tlOp hF rfl rfl rfl ?_ ?_
        rotate_left
        · exact cAllocN rfl (run_alloc_i infoR1)
        intro a w19 hF hb
        have hBs := hB.size
        replace hB := hB.trans (hb.mono hB.size)
        try (refine wpList_nil ?_)
        replace hM := hM.below hb
        obtain ⟨z, ⟨g9, rfl, hg9, hb9⟩, hF⟩ := hF.open (s := 9) rfl
        have hg9 : w18.heap.size ≤ g9 := hg9
        refine tlStoreV (Δ := [(1, Ty.ex (.pointer (some ⟨g1, 0, none⟩))), (2, Ty.ex (.pointer (some ⟨g2, 0, none⟩))), (4, Ty.ex p), (5, Ty.ex q), (6, Ty.ex (.bool (!st.once))), (7, Ty.ex (.int .i64 (n : Int))), (8, Ty.ex (.int .i64 (i : Int))), (9, Ty.ex (.pointer (some ⟨g9, 0, none⟩)))]) hF rfl rfl rfl rfl (hF.getEx (s := 29) rfl) hb9 (sumSz _) (by show _ = some (u8s _).size; rw [Sm.size]; exact sizeR) (u8s_one _) (hF.keep [1, 2, 4, 5, 6, 7, 8, 9]) rfl ?_
        intro w20 hF hb9' hkx
        refine wpList_nil ?_
        have hMk : ∀ y ∈ [g9], w.heap.size ≤ y := by intro y hy; simp only [List.mem_singleton] at hy; omega
        replace hM : RPeel w w20 g1 g2 seed s p q st Sp Sq := ⟨hM.blk.keeps hkx (by simpa using hM.blk.ne hb9 (by decide)), hM.res.keeps hkx (by simpa using hM.res.ne hb9 (by decide)), (Ty.cls 79 st.L).far hM.tab hkx hb9 rfl, hM.plus.keeps hkx (fun y hy hm => by simp only [List.mem_singleton] at hm; have := hSp y hy; omega), hM.minus.keeps hkx (fun y hy hm => by simp only [List.mem_singleton] at hm; have := hSq y hy; omega), hM.own1, hM.own2, hM.ownp, hM.ownq, hM.apart⟩
        replace hB := below_own hB hkx hMk
        replace hb9 : Blk w20 g9 77 (u8s x.l) := hb9'
        clear hb9' hkx hat htb
        have hH1 := r10has_ty st.plus x (by omega)
        have hH2 := r10has_ty st.minus x (by omega)
        obtain ⟨tw, htw⟩ : ∃ tw, tw = !(st.once && !(decide (x ∈ st.plus) || decide (x ∈ st.minus))) := ⟨_, rfl⟩
        have hrn2 : (st.once && !(decide (x ∈ st.plus) || decide (x ∈ st.minus))) = !tw := by rw [htw, Bool.not_not]
        rw [hrn2] at hrn
        repeat with_reducible first | refine wp_seq ?_ | refine nThen ?_
        refine wp_mono (Q := fun e a w' => e = .normal ∧ Fr 76 [(1, Ty.ex (.pointer (some ⟨g1, 0, none⟩))), (2, Ty.ex (.pointer (some ⟨g2, 0, none⟩))), (4, Ty.ex p), (5, Ty.ex q), (6, Ty.ex (.bool tw)), (7, Ty.ex (.int .i64 (n : Int))), (8, Ty.ex (.int .i64 (i : Int))), (9, Ty.ex (.pointer (some ⟨g9, 0, none⟩)))] a w' ∧ Below w20.heap.size w20 w') ?_ ?_
        · have h9 := at5R hb9
          have hsp : (Ty.sums 77 st.plus).p w20 p := hM.plus.sl
          have hsq : (Ty.sums 77 st.minus).p w20 q := hM.minus.sl
          subst htw
          replace hB := Below.refl w20.heap.size w20
          cases ho : st.once with
          | false =>
            rw [ho] at hF
            refine' reg_all hF ?_ mixed (by kernel_rfl) ?_
            rotate_left
            · repeat (first | exact Line.nil | (refine' Line.cons rfl (.no rfl rfl rfl rfl rfl rfl) ?_; rotate_left) | ((refine' Line.cons rfl (.run rfl rfl ?_) ?_); (any_goals (first | exact cMove rfl rfl | exact cAssign rfl rfl | exact cPickT rfl rfl rfl)); rotate_left))
            intro a w21 hF hb hN
            have hBs := hB.size
            replace hB := hB.trans (hb.mono hB.size)
            dsimp only [ext, Option.getD] at hF
            exact ⟨rfl, hF.keep [1, 2, 4, 5, 6, 7, 8, 9], hB⟩
          | true =>
            rw [ho] at hF
            cases ha : decide (x ∈ st.plus) with
            | true =>
              rw [ha] at hH1
              refine' reg_all hF ?_ mixed (by kernel_rfl) ?_
              rotate_left
              · repeat (first | exact Line.nil | (refine' Line.cons rfl (.no rfl rfl rfl rfl rfl rfl) ?_; rotate_left) | ((first | refine' Line.cons rfl (.run rfl rfl ?_) ?_ | refine' Line.cons rfl (.yes rfl rfl rfl rfl ?_) ?_); (any_goals (first | exact cMove rfl rfl | exact cAssign rfl rfl | exact cLoadSum rfl (.l rfl h9) Tryz.underlying77 sizeR | exact cCallH2 rfl (.l rfl hsp) (.t rfl) hH1 | exact cPickT rfl rfl rfl | exact cPickF rfl rfl rfl)); rotate_left))
              intro a w21 hF hb hN
              have hBs := hB.size
              replace hB := hB.trans (hb.mono hB.size)
              dsimp only [ext, Option.getD] at hF
              exact ⟨rfl, hF.keep [1, 2, 4, 5, 6, 7, 8, 9], hB⟩
            | false =>
              rw [ha] at hH1
              refine' reg_all hF ?_ mixed (by kernel_rfl) ?_
              rotate_left
              · repeat (first | exact Line.nil | ((first | refine' Line.cons rfl (.run rfl rfl ?_) ?_ | refine' Line.cons rfl (.yes rfl rfl rfl rfl ?_) ?_); (any_goals (first | exact cMove rfl rfl | exact cAssign rfl rfl | exact cLoadSum rfl (.l rfl h9) Tryz.underlying77 sizeR | exact cCallH2 rfl (.l rfl hsp) (.t rfl) hH1 | exact cCallH2 rfl (.l rfl hsq) (.t rfl) hH2 | exact cPickF rfl rfl rfl)); rotate_left))
              intro a w21 hF hb hN
              have hBs := hB.size
              replace hB := hB.trans (hb.mono hB.size)
              dsimp only [ext, Option.getD] at hF
              refine ⟨rfl, ?_, hB⟩
              rw [Bool.true_and, Bool.false_or, Bool.not_not]
              exact hF.keep [1, 2, 4, 5, 6, 7, 8, 9]
        clear hF
        rintro e a w21 ⟨rfl, hF, hb⟩
        replace hB := hB.trans (hb.mono hB.size)
        replace hM := hM.below hb
        replace hb9 := hb9.below hb
        repeat with_reducible first | refine wp_seq ?_ | refine nThen ?_
        have hat := tblk_at hM.blk
        have htab := hM.tab
        by_cases hc : (st.L.getD i default).n = 1
        · refine' reg_all hF ?_ mixed (by kernel_rfl) ?_
          rotate_left
          · repeat (first | exact Line.nil | ((refine' Line.cons rfl (.run rfl rfl ?_) ?_); (any_goals (first | exact cMove rfl rfl | exact cFldL83 rfl (.l rfl hat) | exact cRowOf83 rfl (.t rfl) | exact cIndexCl (k := i) rfl (.l rfl htab) rfl Tryz.underlying42 info49 hlt | exact cFldN49 rfl (.t rfl) | exact cLoadN rfl (.t rfl) | exact OpOk.b (c := true) (cEql rfl rfl rfl) (decide_eq_true hc))); rotate_left))
          intro a w22 hF hb hN
          have hBs := hB.size
          replace hB := hB.trans (hb.mono hB.size)
          dsimp only [ext, Option.getD] at hF
          repeat with_reducible refine nThen ?_
          replace hM := hM.below hb
          replace hb9 := hb9.below hb
          refine cond_t hF rfl ?_
          repeat with_reducible refine wp_seq ?_
          rw [if_pos hc] at hrn
          have hput := rput_ty seed st.L x (-1) (by omega) hsd
          refine wp_region_lit ?_
          refine' tlOp hF rfl rfl rfl ?_ ?_
          rotate_left
          · exact cMove rfl rfl
          intro a w30 hF hb
          have hBs := hB.size
          replace hB := hB.trans (hb.mono hB.size)
          try (refine wpList_nil ?_)
          replace hM := hM.below hb
          replace hb9 := hb9.below hb
          refine' tlOp hF rfl rfl rfl ?_ ?_
          rotate_left
          · exact cLoadSum rfl (.l rfl (at5R hb9)) Tryz.underlying77 sizeR
          intro a w31 hF hb
          have hBs := hB.size
          replace hB := hB.trans (hb.mono hB.size)
          try (refine wpList_nil ?_)
          replace hM := hM.below hb
          replace hb9 := hb9.below hb
          refine' tlOp hF rfl rfl rfl ?_ ?_
          rotate_left
          · exact cBuildSums [x] rfl (parts1v rfl rfl) Tryz.underlying51 infoR1 rfl
          intro a w32 hF hb
          have hBs := hB.size
          replace hB := hB.trans (hb.mono hB.size)
          try (refine wpList_nil ?_)
          replace hM := hM.below hb
          replace hb9 := hb9.below hb
          have hw32 := hB.size
          refine tlAppend (Δ := [(1, Ty.ex (.pointer (some ⟨g1, 0, none⟩))), (2, Ty.ex (.pointer (some ⟨g2, 0, none⟩))), (5, Ty.ex q), (6, Ty.ex (.bool tw)), (7, Ty.ex (.int .i64 (n : Int))), (9, Ty.ex (.pointer (some ⟨g9, 0, none⟩)))]) (n := st.plus.length) (m := 1) (news := flat [x]) hF rfl rfl rfl rfl Tryz.underlying51 infoR1 zero32_size rfl hM.plus (.t rfl) sl_news (flat_len _) flat_one' (by simp [maxLen]; omega) (by omega) (hF.keep [1, 2, 5, 6, 7, 9]) rfl ?_
          intro a w33 p' S' hF hseg hk33 hS33
          rw [← flat_append] at hseg
          have hg9n : g9 ∉ Sp := fun hm => by have := hSp g9 hm; omega
          replace hb9 := hb9.keeps hk33 hg9n
          replace hB := below_own hB hk33 hM.ownp
          replace hM := hM.app_p (x := x) (o := !tw) hk33 hseg hS33 (by omega)
          refine' tlOp hF rfl rfl rfl ?_ ?_
          rotate_left
          · exact cAssign rfl rfl
          intro a w34 hF hb
          have hBs := hB.size
          replace hB := hB.trans (hb.mono hB.size)
          try (refine wpList_nil ?_)
          repeat with_reducible refine nThen ?_
          replace hM := hM.below hb
          replace hb9 := hb9.below hb
          refine wp_region_lit ?_
          refine' tlOp hF rfl rfl rfl ?_ ?_
          rotate_left
          · exact cLoadT83 rfl (.l rfl (tblk_at hM.blk))
          intro a w35 hF hb
          have hBs := hB.size
          replace hB := hB.trans (hb.mono hB.size)
          try (refine wpList_nil ?_)
          replace hM := hM.below hb
          replace hb9 := hb9.below hb
          refine' tlOp hF rfl rfl rfl ?_ ?_
          rotate_left
          · exact cLoadSum rfl (.l rfl (at5R hb9)) Tryz.underlying77 sizeR
          intro a w36 hF hb
          have hBs := hB.size
          replace hB := hB.trans (hb.mono hB.size)
          try (refine wpList_nil ?_)
          replace hM := hM.below hb
          refine' tlOp hF rfl rfl rfl ?_ ?_
          rotate_left
          · exact cCallR3 rfl (Has.l (τ := Ty.tab 79 seed st.L) rfl ⟨s, rfl, hM.tab⟩) (.t rfl) (.t rfl) hput (tabO_olds _ _ _)
          intro a w37 hF hb
          have hBs := hB.size
          replace hB := hB.trans (hb.mono hB.size)
          try (refine wpList_nil ?_)
          replace hM := hM.below hb
          obtain ⟨z, ⟨s', rfl, Ss, hsg, hSs⟩, hF⟩ := hF.open (s := 54) rfl
          refine tlStoreV (Δ := [(1, Ty.ex (.pointer (some ⟨g1, 0, none⟩))), (2, Ty.ex (.pointer (some ⟨g2, 0, none⟩))), (4, Ty.ex p'), (5, Ty.ex q), (6, Ty.ex (.bool tw)), (7, Ty.ex (.int .i64 (n : Int)))]) hF rfl rfl rfl rfl (hF.getEx (s := 54) rfl) hM.blk rfl sizeT83 (sl_one hsg.sl _) (hF.keep [1, 2, 4, 5, 6, 7]) rfl ?_
          intro w38 hF hb1' hkx
          refine wpList_nil ?_
          have hsl := (Ty.cls 79 (tput seed st.L x (-1))).far hsg.sl hkx hM.blk rfl
          have hg1w := hM.own1
          replace hM := hM.put (o := !tw) hkx hb1' hsl
          replace hB := below_own hB hkx (by intro y hy; simp only [List.mem_singleton] at hy; omega)
          repeat with_reducible first | refine nThen ?_ | refine nBlk ?_
          refine' reg_all hF ?_ mixed (by kernel_rfl) ?_
          rotate_left
          · repeat (first | exact Line.nil | ((refine' Line.cons rfl (.run rfl rfl ?_) ?_); (any_goals (first | exact cMove rfl rfl | exact cAssign rfl rfl | exact cAdd (r := ((n + 1 : Nat) : Int)) rfl rfl rfl (by omega))); rotate_left))
          intro a w39 hF hb hN
          have hBs := hB.size
          replace hB := hB.trans (hb.mono hB.size)
          dsimp only [ext, Option.getD] at hF
          repeat with_reducible refine nThen ?_
          exact ⟨m - 1, by omega, n + 1, ⟨tput seed st.L x (-1), st.plus ++ [x], st.minus, !tw⟩, s', p', q, S', Sq, by omega, by rw [Bool.not_not]; exact hF.keep [1, 2, 4, 5, 6, 7], hB, hM.below hb, by rw [tput_len]; exact hlen, hrn.symm, by simp; omega⟩
        · refine' reg_all hF ?_ mixed (by kernel_rfl) ?_
          rotate_left
          · repeat (first | exact Line.nil | ((refine' Line.cons rfl (.run rfl rfl ?_) ?_); (any_goals (first | exact cMove rfl rfl | exact cFldL83 rfl (.l rfl hat) | exact cRowOf83 rfl (.t rfl) | exact cIndexCl (k := i) rfl (.l rfl htab) rfl Tryz.underlying42 info49 hlt | exact cFldN49 rfl (.t rfl) | exact cLoadN rfl (.t rfl) | exact OpOk.b (c := false) (cEql rfl rfl rfl) (decide_eq_false hc))); rotate_left))
          intro a w22 hF hb hN
          have hBs := hB.size
          replace hB := hB.trans (hb.mono hB.size)
          dsimp only [ext, Option.getD] at hF
          repeat with_reducible refine nThen ?_
          replace hM := hM.below hb
          replace hb9 := hb9.below hb
          refine cond_f hF rfl ?_
          repeat with_reducible refine wp_seq ?_
          rw [if_neg hc] at hrn
          have hput := rput_ty seed st.L x 1 (by omega) hsd
          refine wp_region_lit ?_
          refine' tlOp hF rfl rfl rfl ?_ ?_
          rotate_left
          · exact cMove rfl rfl
          intro a w30 hF hb
          have hBs := hB.size
          replace hB := hB.trans (hb.mono hB.size)
          try (refine wpList_nil ?_)
          replace hM := hM.below hb
          replace hb9 := hb9.below hb
          refine' tlOp hF rfl rfl rfl ?_ ?_
          rotate_left
          · exact cLoadSum rfl (.l rfl (at5R hb9)) Tryz.underlying77 sizeR
          intro a w31 hF hb
          have hBs := hB.size
          replace hB := hB.trans (hb.mono hB.size)
          try (refine wpList_nil ?_)
          replace hM := hM.below hb
          replace hb9 := hb9.below hb
          refine' tlOp hF rfl rfl rfl ?_ ?_
          rotate_left
          · exact cBuildSums [x] rfl (parts1v rfl rfl) Tryz.underlying51 infoR1 rfl
          intro a w32 hF hb
          have hBs := hB.size
          replace hB := hB.trans (hb.mono hB.size)
          try (refine wpList_nil ?_)
          replace hM := hM.below hb
          replace hb9 := hb9.below hb
          have hw32 := hB.size
          refine tlAppend (Δ := [(1, Ty.ex (.pointer (some ⟨g1, 0, none⟩))), (2, Ty.ex (.pointer (some ⟨g2, 0, none⟩))), (4, Ty.ex p), (6, Ty.ex (.bool tw)), (7, Ty.ex (.int .i64 (n : Int))), (9, Ty.ex (.pointer (some ⟨g9, 0, none⟩)))]) (n := st.minus.length) (m := 1) (news := flat [x]) hF rfl rfl rfl rfl Tryz.underlying51 infoR1 zero32_size rfl hM.minus (.t rfl) sl_news (flat_len _) flat_one' (by simp [maxLen]; omega) (by omega) (hF.keep [1, 2, 4, 6, 7, 9]) rfl ?_
          intro a w33 p' S' hF hseg hk33 hS33
          rw [← flat_append] at hseg
          have hg9n : g9 ∉ Sq := fun hm => by have := hSq g9 hm; omega
          replace hb9 := hb9.keeps hk33 hg9n
          replace hB := below_own hB hk33 hM.ownq
          replace hM := hM.app_q (x := x) (o := !tw) hk33 hseg hS33 (by omega)
          refine' tlOp hF rfl rfl rfl ?_ ?_
          rotate_left
          · exact cAssign rfl rfl
          intro a w34 hF hb
          have hBs := hB.size
          replace hB := hB.trans (hb.mono hB.size)
          try (refine wpList_nil ?_)
          repeat with_reducible refine nThen ?_
          replace hM := hM.below hb
          replace hb9 := hb9.below hb
          refine wp_region_lit ?_
          refine' tlOp hF rfl rfl rfl ?_ ?_
          rotate_left
          · exact cLoadT83 rfl (.l rfl (tblk_at hM.blk))
          intro a w35 hF hb
          have hBs := hB.size
          replace hB := hB.trans (hb.mono hB.size)
          try (refine wpList_nil ?_)
          replace hM := hM.below hb
          replace hb9 := hb9.below hb
          refine' tlOp hF rfl rfl rfl ?_ ?_
          rotate_left
          · exact cLoadSum rfl (.l rfl (at5R hb9)) Tryz.underlying77 sizeR
          intro a w36 hF hb
          have hBs := hB.size
          replace hB := hB.trans (hb.mono hB.size)
          try (refine wpList_nil ?_)
          replace hM := hM.below hb
          refine' tlOp hF rfl rfl rfl ?_ ?_
          rotate_left
          · exact cCallR3 rfl (Has.l (τ := Ty.tab 79 seed st.L) rfl ⟨s, rfl, hM.tab⟩) (.t rfl) (.t rfl) hput (tabO_olds _ _ _)
          intro a w37 hF hb
          have hBs := hB.size
          replace hB := hB.trans (hb.mono hB.size)
          try (refine wpList_nil ?_)
          replace hM := hM.below hb
          obtain ⟨z, ⟨s', rfl, Ss, hsg, hSs⟩, hF⟩ := hF.open (s := 61) rfl
          refine tlStoreV (Δ := [(1, Ty.ex (.pointer (some ⟨g1, 0, none⟩))), (2, Ty.ex (.pointer (some ⟨g2, 0, none⟩))), (4, Ty.ex p), (5, Ty.ex p'), (6, Ty.ex (.bool tw)), (7, Ty.ex (.int .i64 (n : Int)))]) hF rfl rfl rfl rfl (hF.getEx (s := 61) rfl) hM.blk rfl sizeT83 (sl_one hsg.sl _) (hF.keep [1, 2, 4, 5, 6, 7]) rfl ?_
          intro w38 hF hb1' hkx
          refine wpList_nil ?_
          have hsl := (Ty.cls 79 (tput seed st.L x 1)).far hsg.sl hkx hM.blk rfl
          have hg1w := hM.own1
          replace hM := hM.put (o := !tw) hkx hb1' hsl
          replace hB := below_own hB hkx (by intro y hy; simp only [List.mem_singleton] at hy; omega)
          repeat with_reducible first | refine nThen ?_ | refine nBlk ?_
          refine' reg_all hF ?_ mixed (by kernel_rfl) ?_
          rotate_left
          · repeat (first | exact Line.nil | ((refine' Line.cons rfl (.run rfl rfl ?_) ?_); (any_goals (first | exact cMove rfl rfl | exact cAssign rfl rfl | exact cAdd (r := ((n + 1 : Nat) : Int)) rfl rfl rfl (by omega))); rotate_left))
          intro a w39 hF hb hN
          have hBs := hB.size
          replace hB := hB.trans (hb.mono hB.size)
          dsimp only [ext, Option.getD] at hF
          repeat with_reducible refine nThen ?_
          exact ⟨m - 1, by omega, n + 1, ⟨tput seed st.L x 1, st.plus, st.minus ++ [x], !tw⟩, s', p, p', Sp, S', by omega, by rw [Bool.not_not]; exact hF.keep [1, 2, 4, 5, 6, 7], hB, hM.below hb, by rw [tput_len]; exact hlen, hrn.symm, by simp; omega⟩
      · rw [if_neg hlt] at hNx
        rw [run_stop hlt] at hrun
        repeat with_reducible first | refine wp_seq ?_ | refine nThen ?_ | refine wp_skip ?_ | refine wp_block ?_
        refine' reg_all hF ?_ mixed (by kernel_rfl) ?_
        rotate_left
        · repeat (first | exact Line.nil | ((refine' Line.cons rfl (.run rfl rfl ?_) ?_); (any_goals (first | exact cAssign rfl rfl | exact cLoadT83 rfl (.l rfl hat) | exact cCallH1 rfl (.l rfl htb) hNx)); rotate_left))
        intro a w11 hF hb hN
        have hBs := hB.size
        replace hB := hB.trans (hb.mono hB.size)
        dsimp only [ext, Option.getD] at hF
        repeat with_reducible first | refine wp_seq ?_ | refine nThen ?_
        replace hM := hM.below hb
        refine' reg_all hF ?_ mixed (by kernel_rfl) ?_
        rotate_left
        · repeat (first | exact Line.nil | ((refine' Line.cons rfl (.run rfl rfl ?_) ?_); (any_goals (first | exact cMove rfl rfl | exact cLss rfl rfl rfl)); rotate_left))
        intro a w12 hF hb hN
        have hBs := hB.size
        replace hB := hB.trans (hb.mono hB.size)
        dsimp only [ext, Option.getD] at hF
        repeat with_reducible refine nThen ?_
        replace hM := hM.below hb
        refine cond_ty hF rfl (fun _ => ?_) (fun hneg => ?_)
        · repeat with_reducible first | refine wp_exit ?_ | refine xThen ?_ | refine xFar (by decide) ?_
          rw [← hrun]
          exact ⟨rfl, s, p, q, Sp, Sq, hF.keep [1, 2, 4, 5, 6], hB, hM⟩
        · exact absurd (of_decide_eq_false hneg) (by omega)
    · have hgt : ¬ n ≤ 1024 := by have := of_decide_eq_false hgt; omega
      obtain rfl : m = 0 := by omega
      have hrun : st = peelS seed L := hrun
      repeat with_reducible first | refine wp_exit ?_ | refine xThen ?_
      rw [← hrun]
      exact ⟨rfl, s, p, q, Sp, Sq, hF.keep [1, 2, 4, 5, 6], hB, hM⟩
  clear hF hB hM hb hBs
  rintro e a wr ⟨rfl, s', p, q, Sp, Sq, hF, hB, hM⟩
  have eok : peelOk seed L = ((peelS seed L).once && allZ (peelS seed L).L) := by unfold peelOk Pst.fine; rw [hok, Bool.true_and]
  have eS : resS seed L = seed := by unfold resS; rw [hok]; rfl
  have eL : resL seed L = (peelS seed L).L := by unfold resL; rw [hok]; rfl
  have hlen : (peelS seed L).L.length = L.length := Pst.run_len _ _ _
  have hf1 := peel_few1 (seed := seed) (L := L)
  have hgd : goodN ((peelS seed L).L.length : Int) = true := by rw [hlen]; exact hok
  have eP : resP seed L = if peelOk seed L then setL (peelS seed L).plus else [] := rfl
  have eM : resM seed L = if peelOk seed L then setL (peelS seed L).minus else [] := rfl
  have eN : resN seed L = if peelOk seed L then 0 else 10 := by unfold resN; rw [hok]; rfl
  rw [eS, eL, eP, eM, eN, eok]
  generalize peelS seed L = st at *
  clear eok eS eL eP eM eN
  have hTZ := rzero_ty seed st.L (by omega)
  rw [hgd, Bool.true_and] at hTZ
  have htb : (Ty.tab 79 seed st.L).p wr (.agg #[.int .u64 (seed : Int), s']) := ⟨s', rfl, hM.tab⟩
  have hat := tblk_at hM.blk
  repeat with_reducible first | refine wp_seq ?_ | refine nThen ?_ | refine xHere ?_
  refine wp_mono (Q := fun e a w' => e = .normal ∧ Fr 76 [(1, Ty.ex (.pointer (some ⟨g1, 0, none⟩))), (2, Ty.ex (.pointer (some ⟨g2, 0, none⟩))), (4, Ty.ex p), (5, Ty.ex q), (67, Ty.ex (.bool (!(st.once && allZ st.L))))] a w' ∧ Below wr.heap.size wr w') ?_ ?_
  · replace hB := Below.refl wr.heap.size wr
    cases ho : st.once with
    | true =>
      rw [ho] at hF
      rw [Bool.true_and]
      refine' reg_all hF ?_ mixed (by kernel_rfl) ?_
      rotate_left
      · repeat (first | exact Line.nil | ((first | refine' Line.cons rfl (.run rfl rfl ?_) ?_ | refine' Line.cons rfl (.yes rfl rfl rfl rfl ?_) ?_); (any_goals (first | exact cMove rfl rfl | exact cNot rfl rfl | exact cLoadT83 rfl (.l rfl hat) | exact cCallH1 rfl (.l rfl htb) hTZ | exact cPickF rfl rfl rfl)); rotate_left))
      intro a w50 hF hb hN
      have hBs := hB.size
      replace hB := hB.trans (hb.mono hB.size)
      dsimp only [ext, Option.getD] at hF
      exact ⟨rfl, hF.keep [1, 2, 4, 5, 67], hB⟩
    | false =>
      rw [ho] at hF
      rw [Bool.false_and]
      refine' reg_all hF ?_ mixed (by kernel_rfl) ?_
      rotate_left
      · repeat (first | exact Line.nil | (refine' Line.cons rfl (.no rfl rfl rfl rfl rfl rfl) ?_; rotate_left) | ((refine' Line.cons rfl (.run rfl rfl ?_) ?_); (any_goals (first | exact cMove rfl rfl | exact cPickT rfl rfl rfl)); rotate_left))
      intro a w50 hF hb hN
      have hBs := hB.size
      replace hB := hB.trans (hb.mono hB.size)
      dsimp only [ext, Option.getD] at hF
      exact ⟨rfl, hF.keep [1, 2, 4, 5, 67], hB⟩
  clear hF
  rintro e a w51 ⟨rfl, hF, hb⟩
  replace hB := hB.trans (hb.mono hB.size)
  replace hM := hM.below hb
  have hg2 := hM.own2
  have hsLA := sl_isA hM.tab
  clear htb hat
  repeat with_reducible refine nThen ?_
  cases hz : (st.once && allZ st.L) with
  | false =>
    rw [hz] at hF
    simp only [Bool.false_eq_true, if_false]
    refine cond_t hF rfl ?_
    repeat with_reducible refine wp_seq ?_
    refine wp_region_lit ?_
    refine' tlOp hF rfl rfl rfl ?_ ?_
    rotate_left
    · exact cLoadT83 rfl (.l rfl (tblk_at hM.blk))
    intro a w52 hF hb
    have hBs := hB.size
    replace hB := hB.trans (hb.mono hB.size)
    try (refine wpList_nil ?_)
    replace hM := hM.below hb
    refine' tlOp hF rfl rfl rfl ?_ ?_
    rotate_left
    · exact cBuildI rfl rfl (fun w => buildRLR _ hsLA w)
    intro a w53 hF hb
    have hBs := hB.size
    replace hB := hB.trans (hb.mono hB.size)
    try (refine wpList_nil ?_)
    replace hM := hM.below hb
    refine tlStoreV (Δ := [(2, Ty.ex (.pointer (some ⟨g2, 0, none⟩)))]) hF rfl rfl rfl rfl (hF.getEx (s := 69) rfl) hM.res rfl sizeResR (res_one ⟨_, _, _, rfl⟩ ⟨_, _, _, rfl⟩ hsLA) (hF.keep [2]) rfl ?_
    intro w54 hF hb2 hkx
    have hsl := (Ty.cls 79 st.L).far hM.tab hkx hM.res rfl
    replace hB := below_own hB hkx (by intro y hy; simp only [List.mem_singleton] at hy; omega)
    refine' tlOp hF rfl rfl rfl ?_ ?_
    rotate_left
    · exact cAssign rfl rfl
    intro a w55 hF hb
    have hBs := hB.size
    replace hB := hB.trans (hb.mono hB.size)
    try (refine wpList_nil ?_)
    repeat with_reducible first | refine nThen ?_ | refine wp_ret ?_ | refine rThen ?_
    refine retCell2 hF rfl rfl rfl (hb2.below hb) Tryz.underlying53 rfl sizeResR ?_
    exact ⟨_, rfl, ⟨[_, _], rfl, ⟨nilS, nilS, s', rfl, sl_nil _ _, sl_nil _ _, (Ty.cls 79 st.L).below hsl hb⟩, rfl, trivial⟩, hB⟩
  | true =>
    rw [hz] at hF
    simp only [if_true]
    refine cond_f hF rfl ?_
    repeat with_reducible first | refine wp_seq ?_ | refine nThen ?_ | refine wp_skip ?_
    have hsp : (Ty.sums 77 st.plus).p w51 p := hM.plus.sl
    have hsq : (Ty.sums 77 st.minus).p w51 q := hM.minus.sl
    have hO0 := r10of_ty st.minus (by omega)
    have hO1 := r10of_ty st.plus (by omega)
    have hsl0 := hM.tab
    have hat := tblk_at hM.blk
    generalize setL st.plus = P at *
    generalize setL st.minus = M at *
    refine' region_ty 6 mixed (by kernel_rfl) hF ?_ ?_
    rotate_left
    · simp only [List.take_succ_cons, List.take_zero]
      repeat (first | exact Line.nil | ((refine' Line.cons rfl (.run rfl rfl ?_) ?_); (any_goals (first | exact cMove rfl rfl | exact cCallS1 rfl (.l rfl hsp) hO1 | exact cCallS1 rfl (.l rfl hsq) hO0 | exact cLoadT83 rfl (.l rfl hat) | exact cBuildResR (P := P) (M := M) (L := st.L) rfl rfl rfl rfl hsl0 rfl rfl)); rotate_left))
    intro a w52 hF hb hN
    have hBs := hB.size
    replace hB := hB.trans (hb.mono hB.size)
    simp only [List.take_succ_cons, List.take_zero, List.drop_succ_cons, List.drop_zero] at hF hN ⊢
    dsimp only [ext, Option.getD] at hF
    replace hM := hM.below hb
    obtain ⟨z, ⟨p', q', s2, rfl, k1, k2, k3⟩, hF⟩ := hF.open (s := 75) rfl
    refine tlStoreV (Δ := [(2, Ty.ex (.pointer (some ⟨g2, 0, none⟩)))]) hF rfl rfl rfl rfl (hF.getEx (s := 75) rfl) hM.res rfl sizeResR (res_one (sl_isA k1) (sl_isA k2) (sl_isA k3)) (hF.keep [2]) rfl ?_
    intro w53 hF hb2 hkx
    have hres : (Ty.resR P M seed st.L).p w53 (.agg #[p', q', .int .u64 (seed : Int), s2]) := (Ty.resR P M seed st.L).far (by exact ⟨p', q', s2, rfl, k1, k2, k3⟩) hkx hM.res rfl
    replace hB := below_own hB hkx (by intro y hy; simp only [List.mem_singleton] at hy; omega)
    refine' tlOp hF rfl rfl rfl ?_ ?_
    rotate_left
    · exact cAssign rfl rfl
    intro a w54 hF hb
    have hBs := hB.size
    replace hB := hB.trans (hb.mono hB.size)
    try (refine wpList_nil ?_)
    repeat with_reducible first | refine nThen ?_ | refine wp_ret ?_
    refine retCell2 hF rfl rfl rfl (hb2.below hb) Tryz.underlying53 rfl sizeResR ?_
    exact ⟨_, rfl, ⟨[_, _], rfl, (Ty.resR P M seed st.L).below hres hb, rfl, trivial⟩, hB⟩
end Go.Proofs.YtmlbkcpmgcjblaaGreat

/- Layer 15 by types: the document's Count and TableOf. -/
namespace Go.Proofs.YtmlbkcpmgcjblaaGreat
open Go.RowKit

end Go.Proofs.YtmlbkcpmgcjblaaGreat

/- Layer 15 by types: the document's TableOf. -/
namespace Go.Proofs.YtmlbkcpmgcjblaaGreat
open Go.RowKit

section
variable {P : Program} {ops : Array Oper} {Q : Exit → Act → World → Prop} {N : Nat} {Γ : Ctx} {a : Act} {w : World} {o1 o2 : Oper} {rest : List Oper}
/-- A variable made, and a table of one's own stored there. -/
theorem tlNewTabS {T e : TypeId} {p q : Nat} {seed : Nat} {L : List Cl} {w1 : World} (hF : Fr N Γ a w) (h1 : o1.op = .alloc T) (hg1 : o1.guard = none) (hd1 : o1.dst = some p) (hp : p < N) (hpq : Nat.beq p q = false)
    (hz : ∀ w : World, (Instr.alloc T true (.tuple #[])).run P w = .ok (.pointer (some ⟨w.heap.size, 0, none⟩)) (w.alloc (.cells #[.int .u64 0, .slice none 0 0] T)))
    (h2 : o2.op = .store T (.tmp p) (.tmp q)) (hg2 : o2.guard = none) (hd2 : o2.dst = none) (hq : look Γ q = some (Ty.tabO w1 e seed L)) (hi : (P.info? T).map (·.size) = some 2)
    (hk : ∀ a' w' s, Fr N ((p, Ty.ex (.pointer (some ⟨w.heap.size, 0, none⟩))) :: Γ) a' w' → Below w.heap.size w w' → Blk w' w.heap.size T #[.int .u64 (seed : Int), s] → (Ty.seg w1 e 65 L.length (flatC L)).p w' s → wpList P ops Q rest a' w') : wpList P ops Q (o1 :: o2 :: rest) a w := by
  obtain ⟨v, hv2, hFo⟩ := hF.open hq
  obtain ⟨s, rfl, hs⟩ := hv2
  refine wpList_plain hg1 fun K hK => ?_
  unfold Oper.wp execOp
  simp only [h1, Sem.run_bind, hz, Result.andThen_ok, Sem.run_pure]
  refine hK _ _ ?_
  rw [hd1]
  have hb1 : Below w.heap.size w (w.alloc (.cells #[.int .u64 0, .slice none 0 0] T)) := ((Keeps.refl [] w).alloc _).below
  have hF1 : Fr N ((p, Ty.ex (.pointer (some ⟨w.heap.size, 0, none⟩))) :: (q, Ty.ex (.agg #[.int .u64 (seed : Int), s])) :: Γ) (a.put (some p) (.pointer (some ⟨w.heap.size, 0, none⟩))) (w.alloc (.cells #[.int .u64 0, .slice none 0 0] T)) := hFo.put hp hb1 rfl
  have hv3 := hF1.getEx (s := q) (v := .agg #[.int .u64 (seed : Int), s]) (by rw [look]; simp only [hpq, cond_false]; exact look_same _ _ _)
  refine tlStoreV (Δ := []) hF1 hg2 hd2 h2 (look_same _ _ _) hv3 (Blk.new w _ _) rfl (by rw [hi]; rfl) (sl_one (seg_sl _ _ hs) _) (hF1.keep []) rfl ?_
  intro w' _ hb' hkx
  have hB := below_own hb1 hkx (by intro y hy; simp only [List.mem_singleton] at hy; omega)
  exact hk _ _ s (hF.put hp hB rfl) hB (by simpa [Value.cells] using hb') ((Ty.seg w1 e 65 L.length (flatC L)).below hs hB)
end
theorem blkne {w : World} {g g' : Nat} {t : TypeId} {c : Array Value} {n : Nat} (_ : Blk w g t c) (h1 : g < n) (h2 : n ≤ g') : g ∉ [g'] := by
  simp only [List.mem_singleton]
  omega
set_option maxRecDepth 100000 in
set_option maxHeartbeats 4000000 in
theorem rtof_ty (seed : Nat) (n : Int) (D : List Sm) (hD : D.length ≤ 1000000) (hsd : seed < 18446744073709551616) : FnR3 Tryz.prog 45 (Ty.ex (.int .u64 (seed : Int))) (Ty.ex (.int .i64 n)) (Ty.sums 77 D) (fun w => Ty.tabE w 79 (newS seed n) (ofL seed n D) (newE n)) := by
  refine ⟨fun args w => by kernel_rfl, fun w v u q hv hu hq => ?_⟩
  have nw := rnew_ty seed n
  have hro := r10of_ty D hD
  have hXl := setL_len D
  have eO : ofL seed n D = if goodN n then tall seed (tzero n.toNat) (setL D) 1 else [] := rfl
  rw [eO]
  clear eO
  generalize setL D = X at *
  refine enter_ty 37 [Ty.ex (.int .u64 (seed : Int)), Ty.ex (.int .i64 n), Ty.ex q] Tryz.func45 rfl (by kernel_rfl) ⟨hv, hu, rfl, trivial⟩ fun a hF => ?_
  have hB := Below.refl w.heap.size w
  let TD := Ty.sums 77 D
  repeat with_reducible refine wp_seq ?_
  refine' reg_all hF ?_ mixed (by kernel_rfl) ?_
  rotate_left
  · repeat (first
        | exact Line.nil
        | (refine' Line.cons rfl (.new rfl rfl (run_alloc_i infoT83) rfl) ?_; rotate_left)
        | ((refine' Line.cons rfl (.run rfl rfl ?_) ?_)
           any_goals exact cAssign rfl rfl
           rotate_left))
  intro a w1 hF hb hN
  have hBs := hB.size
  replace hB := hB.trans (hb.mono hB.size)
  dsimp only [ext, Option.getD] at hF
  repeat with_reducible first | refine wp_seq ?_ | refine nThen ?_
  obtain ⟨z, ⟨g6, rfl, hg6, hb6⟩, hF⟩ := hF.open (s := 6) rfl
  have hg6 : w.heap.size ≤ g6 := hg6
  have hlt6 := hb6.lt
  have hB1 := hB
  replace hB := Below.refl w1.heap.size w1
  refine wp_region_lit ?_
  refine' tlOp hF rfl rfl rfl ?_ ?_
  rotate_left
  · exact cMove rfl rfl
  intro a w2 hF hb
  have hBs := hB.size
  replace hB := hB.trans (hb.mono hB.size)
  try (refine wpList_nil ?_)
  refine' tlOp hF rfl rfl rfl ?_ ?_
  rotate_left
  · exact cMove rfl rfl
  intro a w3 hF hb
  have hBs := hB.size
  replace hB := hB.trans (hb.mono hB.size)
  try (refine wpList_nil ?_)
  have hw3 := hB.size
  refine' tlOp hF rfl rfl rfl ?_ ?_
  rotate_left
  · exact cCallR2 rfl (.t rfl) (.t rfl) nw (tabE_olds _ _ _ _)
  intro a w4 hF hb
  have hBs := hB.size
  replace hB := hB.trans (hb.mono hB.size)
  try (refine wpList_nil ?_)
  refine' tlOp hF rfl rfl rfl ?_ ?_
  rotate_left
  · exact cMove rfl rfl
  intro a w5 hF hb
  have hBs := hB.size
  replace hB := hB.trans (hb.mono hB.size)
  try (refine wpList_nil ?_)
  refine' tlOp hF rfl rfl rfl ?_ ?_
  rotate_left
  · exact cExtT rfl rfl
  intro a w6 hF hb
  have hBs := hB.size
  replace hB := hB.trans (hb.mono hB.size)
  try (refine wpList_nil ?_)
  refine' tlOp hF rfl rfl rfl ?_ ?_
  rotate_left
  · exact cExtE rfl rfl
  intro a w7 hF hb
  have hBs := hB.size
  replace hB := hB.trans (hb.mono hB.size)
  try (refine wpList_nil ?_)
  have hw7 := hB.size
  have hw1 := hB1.size
  refine tlNewTabS hF rfl rfl rfl (by decide) rfl (run_alloc_i infoT83) rfl rfl rfl rfl sizeT83 fun a w8 s8 hF hb hb8 hs8 => ?_
  replace hB := hB.trans (hb.mono hB.size)
  have hg8 : g6 < w7.heap.size := by omega
  have hwg8 : w.heap.size ≤ w7.heap.size := by omega
  generalize w7.heap.size = g8 at *
  replace hb6 := hb6.below hB
  replace hB := hB1.trans (hB.mono hB1.size)
  refine' tlOp hF rfl rfl rfl ?_ ?_
  rotate_left
  · exact cAssign rfl rfl
  intro a w9 hF hb
  have hBs := hB.size
  replace hB := hB.trans (hb.mono hB.size)
  try (refine wpList_nil ?_)
  repeat with_reducible first | refine wp_seq ?_ | refine nThen ?_
  replace hb6 := hb6.below hb
  replace hb8 := hb8.below hb
  replace hs8 := (Ty.seg w 79 65 _ _).below (seg_old (by omega) _ _ hs8) hb
  have hq2 := TD.below hq hB
  refine' reg_all hF ?_ mixed (by kernel_rfl) ?_
  rotate_left
  · repeat (first | exact Line.nil | ((refine' Line.cons rfl (.run rfl rfl ?_) ?_); (any_goals (first | exact cMove rfl rfl | exact cAssign rfl rfl | exact cCallS1 rfl (.l rfl hq2) hro)); rotate_left))
  intro a w10 hF hb hN
  have hBs := hB.size
  replace hB := hB.trans (hb.mono hB.size)
  dsimp only [ext, Option.getD] at hF
  repeat with_reducible first | refine wp_seq ?_ | refine nThen ?_
  replace hb6 := hb6.below hb
  replace hb8 := hb8.below hb
  replace hs8 := (Ty.seg w 79 65 _ _).below hs8 hb
  refine' reg_all hF ?_ mixed (by kernel_rfl) ?_
  rotate_left
  · repeat (first | exact Line.nil | ((refine' Line.cons rfl (.run rfl rfl ?_) ?_); (any_goals exact cAssign rfl rfl); rotate_left))
  intro a w11 hF hb hN
  have hBs := hB.size
  replace hB := hB.trans (hb.mono hB.size)
  dsimp only [ext, Option.getD] at hF
  repeat with_reducible first | refine nThen ?_ | refine wp_block ?_
  replace hb6 := hb6.below hb
  replace hb8 := hb8.below hb
  replace hs8 := (Ty.seg w 79 65 _ _).below hs8 hb
  have hn68 : g6 ∉ [g8] := blkne hb6 hg8 (Nat.le_refl _)
  have hn86 : ∀ y, y ∈ [g8] → w.heap.size ≤ y := by intro y hy; simp only [List.mem_singleton] at hy; omega
  have hn66 : ∀ y, y ∈ [g6] → w.heap.size ≤ y := by intro y hy; simp only [List.mem_singleton] at hy; omega
  clear hq2 hg8 hwg8 hw3 hw7 hw1 hB1 hlt6
  by_cases hgn : goodN n = true
  rotate_left
  · have hgn : goodN n = false := by simpa using hgn
    rw [show newE n = .int .i64 1 by unfold newE; rw [hgn]; rfl, hgn] 
    have e3 : newE n = .int .i64 1 := by unfold newE; rw [hgn]; rfl
    have e4 : newL n = [] := by unfold newL; rw [hgn]; rfl
    rw [e3] at hF
    rw [e4] at hs8
    rw [if_neg (by simp)]
    generalize newS seed n = sd at *
    refine loop_ty (fun m a wr => m = 0 ∧ Fr 37 [(2, Ty.sums 77 X), (6, Ty.ex (.pointer (some ⟨g6, 0, none⟩))), (8, Ty.ex (.pointer (some ⟨g8, 0, none⟩))), (9, Ty.ex (.int .i64 1)), (10, Ty.ex (.int .i64 0))] a wr ∧ Below w.heap.size w wr ∧ Blk wr g6 44 zeroT ∧ Blk wr g8 44 #[.int .u64 (sd : Int), s8] ∧ (Ty.seg w 79 65 ([] : List Cl).length (flatC [])).p wr s8) 0 ?_ ?_
    · exact ⟨rfl, hF.as (hF.keep [6, 8, 9, 10]) (s := 2) rfl (fun v hv => seg_sl _ _ hv), hB, hb6, hb8, hs8⟩
    clear hF hB hb6 hb8 hs8
    rintro m a wr ⟨hm, hF, hB, hb6, hb8, hs8⟩
    repeat with_reducible refine wp_seq ?_
    refine wp_mono (Q := fun e a wr => e = .normal ∧ Fr 37 [(26, Ty.ex (.bool false)), (6, Ty.ex (.pointer (some ⟨g6, 0, none⟩))), (8, Ty.ex (.pointer (some ⟨g8, 0, none⟩))), (9, Ty.ex (.int .i64 1))] a wr ∧ Below w.heap.size w wr ∧ Blk wr g6 44 zeroT ∧ Blk wr g8 44 #[.int .u64 (sd : Int), s8] ∧ (Ty.seg w 79 65 ([] : List Cl).length (flatC [])).p wr s8) ?_ ?_
    · by_cases hX : 0 < X.length
      · refine' reg_all hF ?_ mixed (by kernel_rfl) ?_
        rotate_left
        · repeat (first | exact Line.nil | ((first | refine' Line.cons rfl (.run rfl rfl ?_) ?_ | refine' Line.cons rfl (.yes rfl rfl rfl rfl ?_) ?_); (any_goals (first | exact cMove rfl rfl | exact cLenH rfl (.t rfl) (Ty.sl_isSl _ _ _) Tryz.underlying51 | exact OpOk.b (c := true) (cLss rfl rfl rfl) (decide_eq_true (by omega)) | exact OpOk.b (c := false) (cEql rfl rfl rfl) rfl | exact cPickT rfl rfl rfl)); rotate_left))
        intro a w12 hF hb hN
        have hBs := hB.size
        replace hB := hB.trans (hb.mono hB.size)
        dsimp only [ext, Option.getD] at hF
        exact ⟨rfl, hF.keep [26, 6, 8, 9], hB, hb6.below hb, hb8.below hb, (Ty.seg w 79 65 _ _).below hs8 hb⟩
      · refine' reg_all hF ?_ mixed (by kernel_rfl) ?_
        rotate_left
        · repeat (first | exact Line.nil | (refine' Line.cons rfl (.no rfl rfl rfl rfl rfl rfl) ?_; rotate_left) | ((refine' Line.cons rfl (.run rfl rfl ?_) ?_); (any_goals (first | exact cMove rfl rfl | exact cLenH rfl (.t rfl) (Ty.sl_isSl _ _ _) Tryz.underlying51 | exact OpOk.b (c := false) (cLss rfl rfl rfl) (decide_eq_false (by omega)) | exact cPickF rfl rfl rfl)); rotate_left))
        intro a w12 hF hb hN
        have hBs := hB.size
        replace hB := hB.trans (hb.mono hB.size)
        dsimp only [ext, Option.getD] at hF
        exact ⟨rfl, hF.keep [26, 6, 8, 9], hB, hb6.below hb, hb8.below hb, (Ty.seg w 79 65 _ _).below hs8 hb⟩
    clear hF hB hb6 hb8 hs8 a wr
    rintro e a wr ⟨rfl, hF, hB, hb6, hb8, hs8⟩
    have hp8 := tblk_at hb8
    repeat with_reducible refine nThen ?_
    refine cond_f hF rfl ?_
    repeat with_reducible first | refine wp_seq ?_ | refine nThen ?_ | refine wp_exit ?_ | refine xThen ?_ | refine xHere ?_
    refine wp_region_lit ?_
    refine' tlOp hF rfl rfl rfl ?_ ?_
    rotate_left
    · exact cLoadT83 rfl (.l rfl hp8)
    intro a w13 hF hb
    have hBs := hB.size
    replace hB := hB.trans (hb.mono hB.size)
    try (refine wpList_nil ?_)
    replace hb6 := hb6.below hb
    replace hs8 := (Ty.seg w 79 65 _ _).below hs8 hb
    refine' tlOp hF rfl rfl rfl ?_ ?_
    rotate_left
    · exact cMove rfl rfl
    intro a w14 hF hb
    have hBs := hB.size
    replace hB := hB.trans (hb.mono hB.size)
    try (refine wpList_nil ?_)
    replace hb6 := hb6.below hb
    replace hs8 := (Ty.seg w 79 65 _ _).below hs8 hb
    have hq8 := hs8
    obtain ⟨S, hS1, hS2⟩ := hs8
    refine tlStoreV (Δ := [(6, Ty.ex (.pointer (some ⟨g6, 0, none⟩))), (36, Ty.ex (.int .i64 1))]) hF rfl rfl rfl rfl (hF.getEx (s := 35) rfl) hb6 rfl sizeT83 (sl_one hS1.sl _) (hF.keep [6, 36]) rfl ?_
    intro w15 hF hb6' hkx
    replace hS1 := hS1.keeps hkx (seg_far hS1 hb6 (by decide))
    replace hB := below_own hB hkx hn66
    refine' tlOp hF rfl rfl rfl ?_ ?_
    rotate_left
    · exact cAssign rfl rfl
    intro a w16 hF hb
    have hBs := hB.size
    replace hB := hB.trans (hb.mono hB.size)
    try (refine wpList_nil ?_)
    repeat with_reducible first | refine nThen ?_ | refine wp_ret ?_
    refine retCell2 hF rfl rfl rfl (hb6'.below hb) Tryz.underlying44 rfl sizeT83 ?_
    exact ⟨_, rfl, ⟨_, rfl, s8, rfl, S, hS1.below hb, hS2⟩, hB⟩
  have hr := of_decide_eq_true hgn
  have e2 : newS seed n = seed := by unfold newS; rw [hgn]; rfl
  have e3 : newE n = .int .i64 0 := by unfold newE; rw [hgn]; rfl
  have e4 : newL n = tzero n.toNat := by unfold newL; rw [hgn]; rfl
  rw [e2, e3, if_pos hgn]
  rw [e3] at hF
  rw [e2] at hb8
  rw [e4] at hs8
  have lZ : (tzero n.toNat).length ≤ 1000000 := by rw [tzero_len]; omega
  clear e2 e3 e4 nw
  generalize tzero n.toNat = Z at *
  refine loop_ty (fun m a wr => ∃ (k : Nat) (s : Value), k + m = X.length ∧ Fr 37 [(2, Ty.sums 77 X), (6, Ty.ex (.pointer (some ⟨g6, 0, none⟩))), (8, Ty.ex (.pointer (some ⟨g8, 0, none⟩))), (9, Ty.ex (.int .i64 0)), (10, Ty.ex (.int .i64 (k : Int)))] a wr ∧ Below w.heap.size w wr ∧ Blk wr g6 44 zeroT ∧ Blk wr g8 44 #[.int .u64 (seed : Int), s] ∧ (Ty.seg w 79 65 (tall seed Z (X.take k) 1).length (flatC (tall seed Z (X.take k) 1))).p wr s) X.length ?_ ?_
  · exact ⟨0, s8, by omega, hF.as (hF.keep [6, 8, 9, 10]) (s := 2) rfl (fun v hv => seg_sl _ _ hv), hB, hb6, hb8, hs8⟩
  clear hF hB hb6 hb8 hs8
  rintro m a wr ⟨k, s, hk, hF, hB, hb6, hb8, hs8⟩
  have hlk : (tall seed Z (X.take k) 1).length = Z.length := tall_len _ _ _ _
  repeat with_reducible refine wp_seq ?_
  by_cases hlt : k < X.length
  rotate_left
  · obtain rfl : k = X.length := by omega
    rw [List.take_length] at hs8
    generalize tall seed Z X 1 = U at *
    refine' reg_all hF ?_ mixed (by kernel_rfl) ?_
    rotate_left
    · repeat (first | exact Line.nil | (refine' Line.cons rfl (.no rfl rfl rfl rfl rfl rfl) ?_; rotate_left) | ((refine' Line.cons rfl (.run rfl rfl ?_) ?_); (any_goals (first | exact cMove rfl rfl | exact cLenH rfl (.t rfl) (Ty.sl_isSl _ _ _) Tryz.underlying51 | exact OpOk.b (c := false) (cLss rfl rfl rfl) (decide_eq_false (by omega)) | exact cPickF rfl rfl rfl)); rotate_left))
    intro a w12 hF hb hN
    have hBs := hB.size
    replace hB := hB.trans (hb.mono hB.size)
    dsimp only [ext, Option.getD] at hF
    repeat with_reducible refine nThen ?_
    replace hb6 := hb6.below hb
    replace hb8 := hb8.below hb
    replace hs8 := (Ty.seg w 79 65 _ _).below hs8 hb
    have hp8 := tblk_at hb8
    refine cond_f hF rfl ?_
    repeat with_reducible first | refine wp_seq ?_ | refine nThen ?_ | refine wp_exit ?_ | refine xThen ?_ | refine xHere ?_
    refine wp_region_lit ?_
    refine' tlOp hF rfl rfl rfl ?_ ?_
    rotate_left
    · exact cLoadT83 rfl (.l rfl hp8)
    intro a w13 hF hb
    have hBs := hB.size
    replace hB := hB.trans (hb.mono hB.size)
    try (refine wpList_nil ?_)
    replace hb6 := hb6.below hb
    replace hs8 := (Ty.seg w 79 65 _ _).below hs8 hb
    refine' tlOp hF rfl rfl rfl ?_ ?_
    rotate_left
    · exact cMove rfl rfl
    intro a w14 hF hb
    have hBs := hB.size
    replace hB := hB.trans (hb.mono hB.size)
    try (refine wpList_nil ?_)
    replace hb6 := hb6.below hb
    replace hs8 := (Ty.seg w 79 65 _ _).below hs8 hb
    obtain ⟨S, hS1, hS2⟩ := hs8
    refine tlStoreV (Δ := [(6, Ty.ex (.pointer (some ⟨g6, 0, none⟩))), (36, Ty.ex (.int .i64 0))]) hF rfl rfl rfl rfl (hF.getEx (s := 35) rfl) hb6 rfl sizeT83 (sl_one hS1.sl _) (hF.keep [6, 36]) rfl ?_
    intro w15 hF hb6' hkx
    replace hS1 := hS1.keeps hkx (seg_far hS1 hb6 (by decide))
    replace hB := below_own hB hkx hn66
    refine' tlOp hF rfl rfl rfl ?_ ?_
    rotate_left
    · exact cAssign rfl rfl
    intro a w16 hF hb
    have hBs := hB.size
    replace hB := hB.trans (hb.mono hB.size)
    try (refine wpList_nil ?_)
    repeat with_reducible first | refine nThen ?_ | refine wp_ret ?_
    refine retCell2 hF rfl rfl rfl (hb6'.below hb) Tryz.underlying44 rfl sizeT83 ?_
    exact ⟨_, rfl, ⟨_, rfl, s, rfl, S, hS1.below hb, hS2⟩, hB⟩
  refine' reg_all hF ?_ mixed (by kernel_rfl) ?_
  rotate_left
  · repeat (first | exact Line.nil | ((first | refine' Line.cons rfl (.run rfl rfl ?_) ?_ | refine' Line.cons rfl (.yes rfl rfl rfl rfl ?_) ?_); (any_goals (first | exact cMove rfl rfl | exact cLenH rfl (.t rfl) (Ty.sl_isSl _ _ _) Tryz.underlying51 | exact OpOk.b (c := true) (cLss rfl rfl rfl) (decide_eq_true (by omega)) | exact OpOk.b (c := true) (cEql rfl rfl rfl) rfl | exact cPickT rfl rfl rfl)); rotate_left))
  intro a w12 hF hb hN
  have hBs := hB.size
  replace hB := hB.trans (hb.mono hB.size)
  dsimp only [ext, Option.getD] at hF
  repeat with_reducible refine nThen ?_
  replace hb6 := hb6.below hb
  replace hb8 := hb8.below hb
  replace hs8 := (Ty.seg w 79 65 _ _).below hs8 hb
  have hp8 := tblk_at hb8
  refine cond_t hF rfl ?_
  have hnx := tall_next seed Z X hlt 1
  have hput := rput_ty seed (tall seed Z (X.take k) 1) (X.getD k default) 1 (by rw [tall_len]; exact lZ) hsd
  rw [← hnx] at hput
  have ht8 : (Ty.tab 79 seed (tall seed Z (X.take k) 1)).p w12 (.agg #[.int .u64 (seed : Int), s]) := ⟨s, rfl, seg_sl _ _ hs8⟩
  generalize tall seed Z (X.take k) 1 = Lk at *
  generalize hLn : tall seed Z (X.take (k + 1)) 1 = Ln at *
  have hB0 := hB
  have hw12 := hB.size
  replace hB := Below.refl w12.heap.size w12
  repeat with_reducible first | refine wp_seq ?_ | refine nThen ?_ | refine wp_skip ?_ | refine wp_block ?_
  refine' region_ty 6 mixed (by kernel_rfl) hF ?_ ?_
  rotate_left
  · simp only [List.take_succ_cons, List.take_zero]
    repeat (first | exact Line.nil | ((refine' Line.cons rfl (.run rfl rfl ?_) ?_); (any_goals (first | exact cMove rfl rfl | exact cLoadT83 rfl (.l rfl hp8) | exact cIndexSum (L := X) (k := k) rfl (.t rfl) rfl Tryz.underlying51 sizeR hlt | exact cLoadSum rfl (.t rfl) Tryz.underlying77 sizeR | exact cCallR3 rfl (.l rfl ht8) (.t rfl) (.t rfl) hput (tabO_olds _ _ _))); rotate_left))
  intro a w13 hF hb hN
  have hBs := hB.size
  replace hB := hB.trans (hb.mono hB.size)
  simp only [List.take_succ_cons, List.take_zero, List.drop_succ_cons, List.drop_zero] at hF hN ⊢
  dsimp only [ext, Option.getD] at hF
  replace hb6 := hb6.below hb
  replace hb8 := hb8.below hb
  obtain ⟨z, ⟨u34, rfl, S, hS1, hS2⟩, hF⟩ := hF.open (s := 34) rfl
  refine tlStoreV (Δ := [(2, Ty.sums 77 X), (6, Ty.ex (.pointer (some ⟨g6, 0, none⟩))), (8, Ty.ex (.pointer (some ⟨g8, 0, none⟩))), (9, Ty.ex (.int .i64 0)), (10, Ty.ex (.int .i64 (k : Int)))]) hF rfl rfl rfl rfl (hF.getEx (s := 34) rfl) hb8 rfl sizeT83 (sl_one hS1.sl _) (hF.keep [2, 6, 8, 9, 10]) rfl ?_
  intro w15 hF hb8' hkx
  refine wpList_nil ?_
  replace hS1 := hS1.keeps hkx (seg_far hS1 hb8 (by decide))
  replace hb6 := hb6.keeps hkx hn68
  have hB15 : Below w.heap.size w w15 := below_own (hB0.trans (hB.mono hB0.size)) hkx hn86
  replace hB := hB15
  replace hb8 : Blk w15 g8 44 #[.int .u64 (seed : Int), u34] := hb8'
  repeat with_reducible first | refine nThen ?_ | refine nBlk ?_
  refine' reg_all hF ?_ mixed (by kernel_rfl) ?_
  rotate_left
  · repeat (first | exact Line.nil | ((refine' Line.cons rfl (.run rfl rfl ?_) ?_); (any_goals (first | exact cMove rfl rfl | exact cAssign rfl rfl | exact cAdd (r := ((k + 1 : Nat) : Int)) rfl rfl rfl (by omega))); rotate_left))
  intro a w16 hF hb hN
  have hBs := hB.size
  replace hB := hB.trans (hb.mono hB.size)
  dsimp only [ext, Option.getD] at hF
  repeat with_reducible refine nThen ?_
  refine ⟨m - 1, by omega, k + 1, u34, by omega, hF.keep [2, 6, 8, 9, 10], hB, hb6.below hb, hb8.below hb, ?_⟩
  rw [hLn]
  exact ⟨S, hS1.below hb, fun y hy => Nat.le_trans hw12 (hS2 y hy)⟩
end Go.Proofs.YtmlbkcpmgcjblaaGreat

/- Layer 10: the walks of SetParts, SetLaws. -/
namespace Go.Proofs.YtmlbkcpmgcjblaaGreat
open Go.RowKit

end Go.Proofs.YtmlbkcpmgcjblaaGreat

/- Layer 10: the walks of Add, Tell. -/
namespace Go.Proofs.YtmlbkcpmgcjblaaGreat
open Go.RowKit

end Go.Proofs.YtmlbkcpmgcjblaaGreat

/- Layer 10 by types: the document's Minus, Both, Either, Bytes, Tell. -/
namespace Go.Proofs.YtmlbkcpmgcjblaaGreat
open Go.RowKit

theorem setL_minus (A B : List Sm) : setL (A.filter fun x => !decide (x ∈ B)) = minusL A B := srt_ext (setL_srt _) (minusL_srt A B) fun x => by
  rw [setL_mem, List.mem_filter, minusL_mem]
  simp
theorem setL_both (A B : List Sm) : setL (A.filter fun x => decide (x ∈ B)) = bothL A B := srt_ext (setL_srt _) (bothL_srt A B) fun x => by
  rw [setL_mem, List.mem_filter, bothL_mem]
  simp
theorem filt_in {D : List Sm} {p : Sm → Bool} {m : Nat} (h : m < D.length) (hp : p (D.getD m default) = true) : (D.take (m + 1)).filter p = (D.take m).filter p ++ [D.getD m default] := by
  have e : List.filter p [D.getD m default] = [D.getD m default] := by rw [List.filter_cons, hp]; rfl
  rw [take_snoc' D h, List.filter_append, e]
theorem filt_out {D : List Sm} {p : Sm → Bool} {m : Nat} (h : m < D.length) (hp : p (D.getD m default) = false) : (D.take (m + 1)).filter p = (D.take m).filter p := by
  have e : List.filter p [D.getD m default] = [] := by rw [List.filter_cons, hp]; rfl
  rw [take_snoc' D h, List.filter_append, e, List.append_nil]
set_option maxRecDepth 100000 in
set_option maxHeartbeats 2000000 in
theorem r10minus_ty (A B : List Sm) (hA : A.length ≤ 900000) (hBl : B.length ≤ 900000) : FnSeg2 Tryz.prog 47 (Ty.sums 77 A) (Ty.sums 77 B) 77 32 (minusL A B).length (flat (minusL A B)) := by
  refine ⟨fun args w => by kernel_rfl, fun w v u hv hu => ?_⟩
  obtain ⟨p, hp⟩ : ∃ p : Sm → Bool, p = fun x => !decide (x ∈ B) := ⟨_, rfl⟩
  have hpx : ∀ x, p x = !decide (x ∈ B) := fun x => by rw [hp]
  have hres : setL (A.filter p) = minusL A B := by rw [hp]; exact setL_minus A B
  have hof := r10of_ty (A.filter p) (Nat.le_trans (List.length_filter_le _ _) (by omega))
  rw [hres] at hof
  clear hp
  generalize minusL A B = X at *
  clear hres
  let TA := Ty.sums 77 A
  let TB := Ty.sums 77 B
  refine enter_ty 29 [Ty.ex v, Ty.ex u] Tryz.func47 rfl (by kernel_rfl) ⟨rfl, rfl, trivial⟩ fun a hF => ?_
  have hB := Below.refl w.heap.size w
  repeat with_reducible refine wp_seq ?_
  refine' reg_all hF ?_ mixed (by kernel_rfl) ?_
  rotate_left
  · repeat (first | exact Line.nil | ((refine' Line.cons rfl (.run rfl rfl ?_) ?_); (any_goals exact cAssign rfl rfl); rotate_left))
  intro a w1 hF hb hN
  have hBs := hB.size
  replace hB := hB.trans (hb.mono hB.size)
  dsimp only [ext, Option.getD] at hF
  repeat with_reducible first | refine wp_seq ?_ | refine nThen ?_
  refine' reg_all hF ?_ mixed (by kernel_rfl) ?_
  rotate_left
  · repeat (first | exact Line.nil | ((refine' Line.cons rfl (.run rfl rfl ?_) ?_); (any_goals exact cAssign rfl rfl); rotate_left))
  intro a w2 hF hb hN
  have hBs := hB.size
  replace hB := hB.trans (hb.mono hB.size)
  dsimp only [ext, Option.getD] at hF
  repeat with_reducible first | refine wp_seq ?_ | refine nThen ?_
  refine' reg_all hF ?_ mixed (by kernel_rfl) ?_
  rotate_left
  · repeat (first | exact Line.nil | ((refine' Line.cons rfl (.run rfl rfl ?_) ?_); (any_goals exact cAssign rfl rfl); rotate_left))
  intro a w3 hF hb hN
  have hBs := hB.size
  replace hB := hB.trans (hb.mono hB.size)
  dsimp only [ext, Option.getD] at hF
  repeat with_reducible first | refine nThen ?_ | refine wp_block ?_
  refine loop_ty (fun m a wr => ∃ (i : Nat) (z : Value) (S : List Nat), i + m = A.length ∧ Fr 29 [(0, Ty.ex v), (1, Ty.ex u), (5, Ty.ex z), (6, Ty.ex (.int .i64 (i : Int)))] a wr ∧ Below w.heap.size w wr ∧ Seg wr 77 32 z ((A.take i).filter p).length (flat ((A.take i).filter p)) S ∧ ∀ y ∈ S, w.heap.size ≤ y) A.length ?_ ?_
  · exact ⟨0, _, [], by omega, hF.keep [0, 1, 5, 6], hB, Seg.nil _ _ _, by simp⟩
  clear hF hB
  rintro m a wr ⟨i, z, S, hi, hF, hB, hseg, hS⟩
  have hvr := TA.below hv hB
  repeat with_reducible refine wp_seq ?_
  refine' reg_all hF ?_ mixed (by kernel_rfl) ?_
  rotate_left
  · repeat (first | exact Line.nil | ((refine' Line.cons rfl (.run rfl rfl ?_) ?_); (any_goals (first | exact cMove rfl rfl | exact cLenH rfl (.l rfl hvr) (Ty.sl_isSl _ _ _) Tryz.underlying51 | exact cLss rfl rfl rfl)); rotate_left))
  intro a w4 hF hb hN
  have hBs := hB.size
  replace hB := hB.trans (hb.mono hB.size)
  dsimp only [ext, Option.getD] at hF
  repeat with_reducible refine nThen ?_
  replace hseg := hseg.below hb
  replace hvr := TA.below hvr hb
  have hur := TB.below hu hB
  refine cond_ty hF rfl (fun hlt => ?_) (fun hge => ?_)
  · have hlt : i < A.length := by have := of_decide_eq_true hlt; omega
    have hfl : ((A.take i).filter p).length ≤ i := Nat.le_trans (List.length_filter_le _ _) (by rw [List.length_take]; omega)
    repeat with_reducible first | refine wp_seq ?_ | refine nThen ?_ | refine wp_skip ?_ | refine wp_block ?_
    refine' reg_all hF ?_ mixed (by kernel_rfl) ?_
    rotate_left
    · repeat (first | exact Line.nil | ((refine' Line.cons rfl (.run rfl rfl ?_) ?_); (any_goals (first | exact cMove rfl rfl | exact cNot rfl rfl | exact cIndexSum (k := i) rfl (.l rfl hvr) rfl Tryz.underlying51 sizeR hlt | exact cLoadSum rfl (.t rfl) Tryz.underlying77 sizeR | exact cCallH2 rfl (.l rfl hur) (.t rfl) (r10has_ty B (A.getD i default) (by omega)))); rotate_left))
    intro a w5 hF hb hN
    have hBs := hB.size
    replace hB := hB.trans (hb.mono hB.size)
    dsimp only [ext, Option.getD] at hF
    repeat with_reducible refine nThen ?_
    replace hseg := hseg.below hb
    replace hvr := TA.below hvr hb
    refine cond_ty hF rfl (fun hin => ?_) (fun hout => ?_)
    · have hin : p (A.getD i default) = true := by rw [hpx]; exact hin
      have hnx := filt_in hlt hin
      refine' region_ty 6 mixed (by kernel_rfl) hF ?_ ?_
      rotate_left
      · simp only [List.take_succ_cons, List.take_zero]
        repeat (first | exact Line.nil | ((refine' Line.cons rfl (.run rfl rfl ?_) ?_); (any_goals (first | exact cMove rfl rfl | exact cIndexSum (k := i) rfl (.l rfl hvr) rfl Tryz.underlying51 sizeR hlt | exact cLoadSum rfl (.t rfl) Tryz.underlying77 sizeR | exact cBuildSums [A.getD i default] rfl (parts1v rfl rfl) Tryz.underlying51 infoR1 rfl)); rotate_left))
      intro a w6 hF hb hN
      have hBs := hB.size
      replace hB := hB.trans (hb.mono hB.size)
      simp only [List.take_succ_cons, List.take_zero, List.drop_succ_cons, List.drop_zero] at hF hN ⊢
      dsimp only [ext, Option.getD] at hF
      replace hseg := hseg.below hb
      refine tlAppend (Δ := [(0, Ty.ex v), (1, Ty.ex u), (6, Ty.ex (.int .i64 (i : Int)))]) (m := 1) (news := flat [A.getD i default]) hF rfl rfl rfl rfl Tryz.underlying51 infoR1 zero32_size rfl hseg (.t rfl) sl_news (by rw [flat_len]; rfl) flat_one' (by simp [maxLen]; omega) (by omega) (hF.keep [0, 1, 6]) rfl ?_
      intro a w7 z' S' hF hseg' hk7 hS'
      have hbS : ∀ y ∈ S', w.heap.size ≤ y := own_next hB hS hS'
      replace hB := below_own hB hk7 hS
      rw [← flat_append, ← hnx] at hseg'
      have hln : ((A.take i).filter p).length + 1 = ((A.take (i + 1)).filter p).length := by rw [hnx, List.length_append]; rfl
      rw [hln] at hseg'
      refine' tlOp hF rfl rfl rfl ?_ ?_
      rotate_left
      · exact cAssign rfl rfl
      intro a w8 hF hb
      have hBs := hB.size
      replace hB := hB.trans (hb.mono hB.size)
      try (refine wpList_nil ?_)
      repeat with_reducible first | refine nThen ?_ | refine nBlk ?_
      replace hseg' := hseg'.below hb
      refine' reg_all hF ?_ mixed (by kernel_rfl) ?_
      rotate_left
      · repeat (first | exact Line.nil | ((refine' Line.cons rfl (.run rfl rfl ?_) ?_); (any_goals (first | exact cMove rfl rfl | exact cAssign rfl rfl | exact cAdd (r := ((i + 1 : Nat) : Int)) rfl rfl rfl (by omega))); rotate_left))
      intro a w9 hF hb hN
      have hBs := hB.size
      replace hB := hB.trans (hb.mono hB.size)
      dsimp only [ext, Option.getD] at hF
      repeat with_reducible refine nThen ?_
      exact ⟨m - 1, by omega, i + 1, z', S', by omega, hF.keep [0, 1, 5, 6], hB, hseg'.below hb, hbS⟩
    · have hout : p (A.getD i default) = false := by rw [hpx]; exact hout
      have hnx := filt_out hlt hout
      repeat with_reducible first | refine nThen ?_ | refine nBlk ?_ | refine wp_skip ?_
      refine' reg_all hF ?_ mixed (by kernel_rfl) ?_
      rotate_left
      · repeat (first | exact Line.nil | ((refine' Line.cons rfl (.run rfl rfl ?_) ?_); (any_goals (first | exact cMove rfl rfl | exact cAssign rfl rfl | exact cAdd (r := ((i + 1 : Nat) : Int)) rfl rfl rfl (by omega))); rotate_left))
      intro a w9 hF hb hN
      have hBs := hB.size
      replace hB := hB.trans (hb.mono hB.size)
      dsimp only [ext, Option.getD] at hF
      repeat with_reducible refine nThen ?_
      refine ⟨m - 1, by omega, i + 1, z, S, by omega, hF.keep [0, 1, 5, 6], hB, ?_, hS⟩
      rw [hnx]
      exact hseg.below hb
  have hge : ¬ i < A.length := by have := of_decide_eq_false hge; omega
  obtain rfl : i = A.length := by omega
  rw [List.take_length] at hseg
  have hz4 : (Ty.sums 77 (A.filter p)).p w4 z := hseg.sl
  have hw4 : w.heap.size ≤ w4.heap.size := hB.size
  repeat with_reducible first | refine wp_seq ?_ | refine nThen ?_ | refine wp_exit ?_ | refine xThen ?_ | refine xHere ?_
  refine' reg_all hF ?_ mixed (by kernel_rfl) ?_
  rotate_left
  · repeat (first | exact Line.nil | ((refine' Line.cons rfl (.run rfl rfl ?_) ?_); (any_goals (first | exact cMove rfl rfl | exact cAssign rfl rfl | exact cCallS1 rfl (.l rfl hz4) hof)); rotate_left))
  intro a w5 hF hb hN
  have hBs := hB.size
  replace hB := hB.trans (hb.mono hB.size)
  dsimp only [ext, Option.getD] at hF
  repeat with_reducible first | refine nThen ?_ | refine wp_ret ?_
  refine ret1 hF rfl rfl fun y hy => ?_
  exact ⟨y, rfl, seg_old hw4 _ _ hy, hB⟩
set_option maxRecDepth 100000 in
set_option maxHeartbeats 2000000 in
theorem r10both_ty (A B : List Sm) (hA : A.length ≤ 900000) (hBl : B.length ≤ 900000) : FnSeg2 Tryz.prog 48 (Ty.sums 77 A) (Ty.sums 77 B) 77 32 (bothL A B).length (flat (bothL A B)) := by
  refine ⟨fun args w => by kernel_rfl, fun w v u hv hu => ?_⟩
  obtain ⟨p, hp⟩ : ∃ p : Sm → Bool, p = fun x => decide (x ∈ B) := ⟨_, rfl⟩
  have hpx : ∀ x, p x = decide (x ∈ B) := fun x => by rw [hp]
  have hres : setL (A.filter p) = bothL A B := by rw [hp]; exact setL_both A B
  have hof := r10of_ty (A.filter p) (Nat.le_trans (List.length_filter_le _ _) (by omega))
  rw [hres] at hof
  clear hp
  generalize bothL A B = X at *
  clear hres
  let TA := Ty.sums 77 A
  let TB := Ty.sums 77 B
  refine enter_ty 28 [Ty.ex v, Ty.ex u] Tryz.func48 rfl (by kernel_rfl) ⟨rfl, rfl, trivial⟩ fun a hF => ?_
  have hB := Below.refl w.heap.size w
  repeat with_reducible refine wp_seq ?_
  refine' reg_all hF ?_ mixed (by kernel_rfl) ?_
  rotate_left
  · repeat (first | exact Line.nil | ((refine' Line.cons rfl (.run rfl rfl ?_) ?_); (any_goals exact cAssign rfl rfl); rotate_left))
  intro a w1 hF hb hN
  have hBs := hB.size
  replace hB := hB.trans (hb.mono hB.size)
  dsimp only [ext, Option.getD] at hF
  repeat with_reducible first | refine wp_seq ?_ | refine nThen ?_
  refine' reg_all hF ?_ mixed (by kernel_rfl) ?_
  rotate_left
  · repeat (first | exact Line.nil | ((refine' Line.cons rfl (.run rfl rfl ?_) ?_); (any_goals exact cAssign rfl rfl); rotate_left))
  intro a w2 hF hb hN
  have hBs := hB.size
  replace hB := hB.trans (hb.mono hB.size)
  dsimp only [ext, Option.getD] at hF
  repeat with_reducible first | refine wp_seq ?_ | refine nThen ?_
  refine' reg_all hF ?_ mixed (by kernel_rfl) ?_
  rotate_left
  · repeat (first | exact Line.nil | ((refine' Line.cons rfl (.run rfl rfl ?_) ?_); (any_goals exact cAssign rfl rfl); rotate_left))
  intro a w3 hF hb hN
  have hBs := hB.size
  replace hB := hB.trans (hb.mono hB.size)
  dsimp only [ext, Option.getD] at hF
  repeat with_reducible first | refine nThen ?_ | refine wp_block ?_
  refine loop_ty (fun m a wr => ∃ (i : Nat) (z : Value) (S : List Nat), i + m = A.length ∧ Fr 28 [(0, Ty.ex v), (1, Ty.ex u), (5, Ty.ex z), (6, Ty.ex (.int .i64 (i : Int)))] a wr ∧ Below w.heap.size w wr ∧ Seg wr 77 32 z ((A.take i).filter p).length (flat ((A.take i).filter p)) S ∧ ∀ y ∈ S, w.heap.size ≤ y) A.length ?_ ?_
  · exact ⟨0, _, [], by omega, hF.keep [0, 1, 5, 6], hB, Seg.nil _ _ _, by simp⟩
  clear hF hB
  rintro m a wr ⟨i, z, S, hi, hF, hB, hseg, hS⟩
  have hvr := TA.below hv hB
  repeat with_reducible refine wp_seq ?_
  refine' reg_all hF ?_ mixed (by kernel_rfl) ?_
  rotate_left
  · repeat (first | exact Line.nil | ((refine' Line.cons rfl (.run rfl rfl ?_) ?_); (any_goals (first | exact cMove rfl rfl | exact cLenH rfl (.l rfl hvr) (Ty.sl_isSl _ _ _) Tryz.underlying51 | exact cLss rfl rfl rfl)); rotate_left))
  intro a w4 hF hb hN
  have hBs := hB.size
  replace hB := hB.trans (hb.mono hB.size)
  dsimp only [ext, Option.getD] at hF
  repeat with_reducible refine nThen ?_
  replace hseg := hseg.below hb
  replace hvr := TA.below hvr hb
  have hur := TB.below hu hB
  refine cond_ty hF rfl (fun hlt => ?_) (fun hge => ?_)
  · have hlt : i < A.length := by have := of_decide_eq_true hlt; omega
    have hfl : ((A.take i).filter p).length ≤ i := Nat.le_trans (List.length_filter_le _ _) (by rw [List.length_take]; omega)
    repeat with_reducible first | refine wp_seq ?_ | refine nThen ?_ | refine wp_skip ?_ | refine wp_block ?_
    refine' reg_all hF ?_ mixed (by kernel_rfl) ?_
    rotate_left
    · repeat (first | exact Line.nil | ((refine' Line.cons rfl (.run rfl rfl ?_) ?_); (any_goals (first | exact cMove rfl rfl | exact cIndexSum (k := i) rfl (.l rfl hvr) rfl Tryz.underlying51 sizeR hlt | exact cLoadSum rfl (.t rfl) Tryz.underlying77 sizeR | exact cCallH2 rfl (.l rfl hur) (.t rfl) (r10has_ty B (A.getD i default) (by omega)))); rotate_left))
    intro a w5 hF hb hN
    have hBs := hB.size
    replace hB := hB.trans (hb.mono hB.size)
    dsimp only [ext, Option.getD] at hF
    repeat with_reducible refine nThen ?_
    replace hseg := hseg.below hb
    replace hvr := TA.below hvr hb
    refine cond_ty hF rfl (fun hin => ?_) (fun hout => ?_)
    · have hin : p (A.getD i default) = true := by rw [hpx]; exact hin
      have hnx := filt_in hlt hin
      refine' region_ty 6 mixed (by kernel_rfl) hF ?_ ?_
      rotate_left
      · simp only [List.take_succ_cons, List.take_zero]
        repeat (first | exact Line.nil | ((refine' Line.cons rfl (.run rfl rfl ?_) ?_); (any_goals (first | exact cMove rfl rfl | exact cIndexSum (k := i) rfl (.l rfl hvr) rfl Tryz.underlying51 sizeR hlt | exact cLoadSum rfl (.t rfl) Tryz.underlying77 sizeR | exact cBuildSums [A.getD i default] rfl (parts1v rfl rfl) Tryz.underlying51 infoR1 rfl)); rotate_left))
      intro a w6 hF hb hN
      have hBs := hB.size
      replace hB := hB.trans (hb.mono hB.size)
      simp only [List.take_succ_cons, List.take_zero, List.drop_succ_cons, List.drop_zero] at hF hN ⊢
      dsimp only [ext, Option.getD] at hF
      replace hseg := hseg.below hb
      refine tlAppend (Δ := [(0, Ty.ex v), (1, Ty.ex u), (6, Ty.ex (.int .i64 (i : Int)))]) (m := 1) (news := flat [A.getD i default]) hF rfl rfl rfl rfl Tryz.underlying51 infoR1 zero32_size rfl hseg (.t rfl) sl_news (by rw [flat_len]; rfl) flat_one' (by simp [maxLen]; omega) (by omega) (hF.keep [0, 1, 6]) rfl ?_
      intro a w7 z' S' hF hseg' hk7 hS'
      have hbS : ∀ y ∈ S', w.heap.size ≤ y := own_next hB hS hS'
      replace hB := below_own hB hk7 hS
      rw [← flat_append, ← hnx] at hseg'
      have hln : ((A.take i).filter p).length + 1 = ((A.take (i + 1)).filter p).length := by rw [hnx, List.length_append]; rfl
      rw [hln] at hseg'
      refine' tlOp hF rfl rfl rfl ?_ ?_
      rotate_left
      · exact cAssign rfl rfl
      intro a w8 hF hb
      have hBs := hB.size
      replace hB := hB.trans (hb.mono hB.size)
      try (refine wpList_nil ?_)
      repeat with_reducible first | refine nThen ?_ | refine nBlk ?_
      replace hseg' := hseg'.below hb
      refine' reg_all hF ?_ mixed (by kernel_rfl) ?_
      rotate_left
      · repeat (first | exact Line.nil | ((refine' Line.cons rfl (.run rfl rfl ?_) ?_); (any_goals (first | exact cMove rfl rfl | exact cAssign rfl rfl | exact cAdd (r := ((i + 1 : Nat) : Int)) rfl rfl rfl (by omega))); rotate_left))
      intro a w9 hF hb hN
      have hBs := hB.size
      replace hB := hB.trans (hb.mono hB.size)
      dsimp only [ext, Option.getD] at hF
      repeat with_reducible refine nThen ?_
      exact ⟨m - 1, by omega, i + 1, z', S', by omega, hF.keep [0, 1, 5, 6], hB, hseg'.below hb, hbS⟩
    · have hout : p (A.getD i default) = false := by rw [hpx]; exact hout
      have hnx := filt_out hlt hout
      repeat with_reducible first | refine nThen ?_ | refine nBlk ?_ | refine wp_skip ?_
      refine' reg_all hF ?_ mixed (by kernel_rfl) ?_
      rotate_left
      · repeat (first | exact Line.nil | ((refine' Line.cons rfl (.run rfl rfl ?_) ?_); (any_goals (first | exact cMove rfl rfl | exact cAssign rfl rfl | exact cAdd (r := ((i + 1 : Nat) : Int)) rfl rfl rfl (by omega))); rotate_left))
      intro a w9 hF hb hN
      have hBs := hB.size
      replace hB := hB.trans (hb.mono hB.size)
      dsimp only [ext, Option.getD] at hF
      repeat with_reducible refine nThen ?_
      refine ⟨m - 1, by omega, i + 1, z, S, by omega, hF.keep [0, 1, 5, 6], hB, ?_, hS⟩
      rw [hnx]
      exact hseg.below hb
  have hge : ¬ i < A.length := by have := of_decide_eq_false hge; omega
  obtain rfl : i = A.length := by omega
  rw [List.take_length] at hseg
  have hz4 : (Ty.sums 77 (A.filter p)).p w4 z := hseg.sl
  have hw4 : w.heap.size ≤ w4.heap.size := hB.size
  repeat with_reducible first | refine wp_seq ?_ | refine nThen ?_ | refine wp_exit ?_ | refine xThen ?_ | refine xHere ?_
  refine' reg_all hF ?_ mixed (by kernel_rfl) ?_
  rotate_left
  · repeat (first | exact Line.nil | ((refine' Line.cons rfl (.run rfl rfl ?_) ?_); (any_goals (first | exact cMove rfl rfl | exact cAssign rfl rfl | exact cCallS1 rfl (.l rfl hz4) hof)); rotate_left))
  intro a w5 hF hb hN
  have hBs := hB.size
  replace hB := hB.trans (hb.mono hB.size)
  dsimp only [ext, Option.getD] at hF
  repeat with_reducible first | refine nThen ?_ | refine wp_ret ?_
  refine ret1 hF rfl rfl fun y hy => ?_
  exact ⟨y, rfl, seg_old hw4 _ _ hy, hB⟩
end Go.Proofs.YtmlbkcpmgcjblaaGreat

/- The document's Own, by types. -/
namespace Go.Proofs.YtmlbkcpmgcjblaaGreat
open Go.RowKit

theorem sumsR_nil (w : World) : (Ty.sums 77 []).p w nilS := sl_nil w 77
set_option maxRecDepth 100000 in
set_option maxHeartbeats 4000000 in
theorem rown_ty (seed : Nat) (L : List Cl) (M : List Sm) (hM : M.length ≤ 900000) (hsd : seed < 18446744073709551616) : Fn2 Tryz.prog 13 (Ty.tab 79 seed L) (Ty.sums 77 M) (Ty.tup [Ty.sums 77 (ownP seed L M), Ty.sums 77 (ownQ seed L M), Ty.ex (.int .i64 (ownN seed L M))]) := by
  refine ⟨fun args w => by kernel_rfl, fun w v u ⟨s, hv, hs⟩ hu => ?_⟩
  subst hv
  have hG := goodCells_ty (L.length : Int)
  have hGd := r10good_ty M (by omega)
  have eN := ownN.eq_1 seed L M
  refine enter_ty 65 [Ty.ex (.agg #[.int .u64 (seed : Int), s]), Ty.ex u] Tryz.func13 rfl (by kernel_rfl) ⟨rfl, rfl, trivial⟩ fun a hF => ?_
  have hB := Below.refl w.heap.size w
  let TL := Ty.cls 79 L
  let TM := Ty.sums 77 M
  repeat with_reducible refine wp_seq ?_
  refine' reg_all hF ?_ mixed (by kernel_rfl) ?_
  rotate_left
  · repeat (first | exact Line.nil | ((refine' Line.cons rfl (.run rfl rfl ?_) ?_); (any_goals (first | exact cAssign rfl rfl | exact cBoxTab rfl rfl)); rotate_left))
  intro a w1 hF hb hN
  have hBs := hB.size
  replace hB := hB.trans (hb.mono hB.size)
  dsimp only [ext, Option.getD] at hF
  repeat with_reducible first | refine wp_seq ?_ | refine nThen ?_
  have hs1 := TL.below hs hB
  have hu1 := TM.below hu hB
  have ht1 : (Ty.tab 79 seed L).p w1 (.agg #[.int .u64 (seed : Int), s]) := ⟨s, rfl, hs1⟩
  refine wp_mono (Q := fun e a w' => e = .normal ∧ Fr 65 [(1, Ty.ex u), (2, Ty.at_ 44 [.int .u64 (seed : Int), s]), (22, Ty.ex (.bool (!(goodN (L.length : Int) && goodL M))))] a w' ∧ Below w.heap.size w w') ?_ ?_
  · cases hg : goodN (L.length : Int) with
    | false =>
      rw [hg] at hG
      rw [Bool.false_and]
      refine' reg_all hF ?_ mixed (by kernel_rfl) ?_
      rotate_left
      · repeat (first | exact Line.nil | (refine' Line.cons rfl (.no rfl rfl rfl rfl rfl rfl) ?_; rotate_left) | ((refine' Line.cons rfl (.run rfl rfl ?_) ?_); (any_goals (first | exact cMove rfl rfl | exact cNot rfl rfl | exact cFldL83 rfl (.t rfl) | exact cRowOf83 rfl (.t rfl) | exact cLenH rfl (.l rfl hs1) (Ty.sl_isSl _ _ _) Tryz.underlying42 | exact cCall1 rfl rfl hG | exact cPickT rfl rfl rfl)); rotate_left))
      intro a w2 hF hb hN
      have hBs := hB.size
      replace hB := hB.trans (hb.mono hB.size)
      dsimp only [ext, Option.getD] at hF
      exact ⟨rfl, hF.keep [1, 2, 22], hB⟩
    | true =>
      rw [hg] at hG
      rw [Bool.true_and]
      refine' reg_all hF ?_ mixed (by kernel_rfl) ?_
      rotate_left
      · repeat (first | exact Line.nil | ((first | refine' Line.cons rfl (.run rfl rfl ?_) ?_ | refine' Line.cons rfl (.yes rfl rfl rfl rfl ?_) ?_); (any_goals (first | exact cMove rfl rfl | exact cNot rfl rfl | exact cFldL83 rfl (.t rfl) | exact cRowOf83 rfl (.t rfl) | exact cLenH rfl (.l rfl hs1) (Ty.sl_isSl _ _ _) Tryz.underlying42 | exact cCall1 rfl rfl hG | exact cCallH1 rfl (.l rfl hu1) hGd | exact cPickF rfl rfl rfl)); rotate_left))
      intro a w2 hF hb hN
      have hBs := hB.size
      replace hB := hB.trans (hb.mono hB.size)
      dsimp only [ext, Option.getD] at hF
      exact ⟨rfl, hF.keep [1, 2, 22], hB⟩
  clear hF hB hs1 hu1 ht1
  rintro e a w2 ⟨rfl, hF, hB⟩
  repeat with_reducible refine nThen ?_
  cases hok : (goodN (L.length : Int) && goodL M) with
  | false =>
    rw [hok] at hF eN
    rw [if_neg (by decide)] at eN
    rw [show ownP seed L M = [] by unfold ownP; rw [eN]; rfl, show ownQ seed L M = [] by unfold ownQ; rw [eN]; rfl, eN]
    refine cond_t hF rfl ?_
    repeat with_reducible refine wp_seq ?_
    refine' reg_all hF ?_ mixed (by kernel_rfl) ?_
    rotate_left
    · repeat (first | exact Line.nil | ((refine' Line.cons rfl (.run rfl rfl ?_) ?_); (any_goals exact cAssign rfl rfl); rotate_left))
    intro a w3 hF hb hN
    have hBs := hB.size
    replace hB := hB.trans (hb.mono hB.size)
    dsimp only [ext, Option.getD] at hF
    repeat with_reducible first | refine nThen ?_ | refine wp_ret ?_ | refine rThen ?_
    refine ret3 hF rfl rfl rfl rfl fun a b c ha hb hc => ?_
    exact ⟨_, rfl, ⟨[a, b, c], rfl, by rw [show a = nilS from ha]; exact sumsR_nil _, by rw [show b = nilS from hb]; exact sumsR_nil _, hc, trivial⟩, hB⟩
  | true =>
  rw [hok] at hF eN
  rw [if_pos rfl] at eN
  simp only [Bool.and_eq_true] at hok
  obtain ⟨hgd, _⟩ := hok
  have o1 := rtof_ty seed (L.length : Int) M (by omega) hsd
  rw [newE_good hgd, newS_good hgd] at o1
  have m1 := r13minus_ty seed seed L (ofL seed (L.length : Int) M)
  have k1 := own_min (seed := seed) (M := M) hgd
  rw [minL_good k1, minS_good k1, minE_good k1] at m1
  have eD : tminus L (ofL seed (L.length : Int) M) = ownD seed L M := rfl
  rw [eD] at m1
  have hDl := ownD_len (seed := seed) (M := M) hgd
  have hAll := rpeel_ty seed (ownD seed L M) hsd
  have eB := ownB.eq_1 seed L M
  have eP : ownP seed L M = if ownN seed L M = 0 then resP seed (ownD seed L M) else [] := rfl
  have eQ : ownQ seed L M = if ownN seed L M = 0 then resM seed (ownD seed L M) else [] := rfl
  rw [eP, eQ, eN, eB]
  clear eP eQ eN eB eD k1
  have hPl := resP_len (seed := seed) (L := ownD seed L M)
  have hQl := resM_len (seed := seed) (L := ownD seed L M)
  generalize ownD seed L M = D at *
  generalize ofL seed (L.length : Int) M = O at *
  generalize resN seed D = en at *
  generalize resP seed D = P at *
  generalize resM seed D = K at *
  generalize resS seed D = sd at *
  generalize resL seed D = RL at *
  have hmn := r10minus_ty K M (by omega) hM
  have hbt := r10both_ty P M (by omega) hM
  refine cond_f hF rfl ?_
  repeat with_reducible first | refine wp_seq ?_ | refine nThen ?_ | refine wp_skip ?_
  have hs2 := TL.below hs hB
  have hu2 := TM.below hu hB
  have ht2 : (Ty.tab 79 seed L).p w2 (.agg #[.int .u64 (seed : Int), s]) := ⟨s, rfl, hs2⟩
  refine wp_region_lit ?_
  refine' tlOp hF rfl rfl rfl ?_ ?_
  rotate_left
  · exact cFldS83 rfl (.t rfl)
  intro a w5_0 hF hb
  replace hB := hB.trans (hb.mono hB.size)
  refine' tlOp hF rfl rfl rfl ?_ ?_
  rotate_left
  · exact cLoadU64 rfl (.t rfl)
  intro a w5_1 hF hb
  replace hB := hB.trans (hb.mono hB.size)
  refine' tlOp hF rfl rfl rfl ?_ ?_
  rotate_left
  · exact cFldL83 rfl (.t rfl)
  intro a w5_2 hF hb
  replace hB := hB.trans (hb.mono hB.size)
  refine' tlOp hF rfl rfl rfl ?_ ?_
  rotate_left
  · exact cRowOf83 rfl (.t rfl)
  intro a w5_3 hF hb
  replace hB := hB.trans (hb.mono hB.size)
  refine' tlOp hF rfl rfl rfl ?_ ?_
  rotate_left
  · exact cLenH rfl (.l rfl (TL.below hs hB)) (Ty.sl_isSl _ _ _) Tryz.underlying42
  intro a w5_4 hF hb
  replace hB := hB.trans (hb.mono hB.size)
  refine' tlOp hF rfl rfl rfl ?_ ?_
  rotate_left
  · exact cMove rfl rfl
  intro a w5_5 hF hb
  replace hB := hB.trans (hb.mono hB.size)
  refine' tlOp hF rfl rfl rfl ?_ ?_
  rotate_left
  · exact cCallR3 rfl (.t rfl) (.t rfl) (.l rfl (TM.below hu hB)) o1 (tabE_olds _ _ _ _)
  intro a w5_6 hF hb
  replace hB := hB.trans (hb.mono hB.size)
  refine' tlOp hF rfl rfl rfl ?_ ?_
  rotate_left
  · exact cMove rfl rfl
  intro a w5_7 hF hb
  replace hB := hB.trans (hb.mono hB.size)
  refine' tlOp hF rfl rfl rfl ?_ ?_
  rotate_left
  · exact cExtT rfl rfl
  intro a w5_t hF hb
  replace hB := hB.trans (hb.mono hB.size)
  refine' tlOp hF rfl rfl rfl ?_ ?_
  rotate_left
  · exact cExtE rfl rfl
  intro a w5_e hF hb
  replace hB := hB.trans (hb.mono hB.size)
  refine tlNewTab hF rfl rfl rfl (by decide) rfl (run_alloc_i infoT83) rfl rfl rfl rfl tabO_tab sizeT83 fun a w5_n hF hb => ?_
  replace hB := hB.trans (hb.mono hB.size)
  refine' tlOp hF rfl rfl rfl ?_ ?_
  rotate_left
  · exact cAssign rfl rfl
  intro a w5 hF hb
  replace hB := hB.trans (hb.mono hB.size)
  try (refine wpList_nil ?_)
  repeat with_reducible first | refine wp_seq ?_ | refine nThen ?_
  refine wp_region_lit ?_
  refine' tlOp hF rfl rfl rfl ?_ ?_
  rotate_left
  · exact cLoadT83 rfl (.t rfl)
  intro a w6_0 hF hb
  replace hB := hB.trans (hb.mono hB.size)
  refine' tlOp hF rfl rfl rfl ?_ ?_
  rotate_left
  · exact cLoadTab83 rfl (.t rfl)
  intro a w6_1 hF hb
  replace hB := hB.trans (hb.mono hB.size)
  refine' tlOp hF rfl rfl rfl ?_ ?_
  rotate_left
  · exact cCallR2 rfl (Has.l (τ := Ty.tab 79 seed L) rfl ⟨s, rfl, TL.below hs hB⟩) (.t rfl) m1 (tabE_olds _ _ _ _)
  intro a w6_2 hF hb
  replace hB := hB.trans (hb.mono hB.size)
  refine' tlOp hF rfl rfl rfl ?_ ?_
  rotate_left
  · exact cMove rfl rfl
  intro a w6_3 hF hb
  replace hB := hB.trans (hb.mono hB.size)
  refine' tlOp hF rfl rfl rfl ?_ ?_
  rotate_left
  · exact cExtT rfl rfl
  intro a w6_t hF hb
  replace hB := hB.trans (hb.mono hB.size)
  refine' tlOp hF rfl rfl rfl ?_ ?_
  rotate_left
  · exact cExtE rfl rfl
  intro a w6_e hF hb
  replace hB := hB.trans (hb.mono hB.size)
  refine tlNewTab hF rfl rfl rfl (by decide) rfl (run_alloc_i infoT83) rfl rfl rfl rfl tabO_tab sizeT83 fun a w6_n hF hb => ?_
  replace hB := hB.trans (hb.mono hB.size)
  refine' tlOp hF rfl rfl rfl ?_ ?_
  rotate_left
  · exact cAssign rfl rfl
  intro a w6 hF hb
  replace hB := hB.trans (hb.mono hB.size)
  try (refine wpList_nil ?_)
  repeat with_reducible first | refine wp_seq ?_ | refine nThen ?_
  refine wp_region_lit ?_
  refine' tlOp hF rfl rfl rfl ?_ ?_
  rotate_left
  · exact cLoadTab83 rfl (.t rfl)
  intro a w7_0 hF hb
  replace hB := hB.trans (hb.mono hB.size)
  refine' tlOp hF rfl rfl rfl ?_ ?_
  rotate_left
  · exact cCall1 rfl rfl hAll
  intro a w7_1 hF hb
  replace hB := hB.trans (hb.mono hB.size)
  refine' tlOp hF rfl rfl rfl ?_ ?_
  rotate_left
  · exact cMove rfl rfl
  intro a w7_2 hF hb
  replace hB := hB.trans (hb.mono hB.size)
  refine' tlOp hF rfl rfl rfl ?_ ?_
  rotate_left
  · exact cExtract rfl rfl rfl
  intro a w7_t hF hb
  replace hB := hB.trans (hb.mono hB.size)
  refine' tlOp hF rfl rfl rfl ?_ ?_
  rotate_left
  · exact cExtract rfl rfl rfl
  intro a w7_e hF hb
  replace hB := hB.trans (hb.mono hB.size)
  refine tlNewResR hF rfl rfl rfl (by decide) rfl rfl rfl rfl rfl fun a w7_n hF hb => ?_
  replace hB := hB.trans (hb.mono hB.size)
  refine' tlOp hF rfl rfl rfl ?_ ?_
  rotate_left
  · exact cAssign rfl rfl
  intro a w7 hF hb
  replace hB := hB.trans (hb.mono hB.size)
  try (refine wpList_nil ?_)
  repeat with_reducible first | refine wp_seq ?_ | refine nThen ?_
  obtain ⟨v11, ⟨p, q, s', hat, r1, r2, r3⟩, hF⟩ := hF.open (s := 11) rfl
  have hu7 := TM.below hu hB
  clear r3 ht2 hs2 hu2
  by_cases h0 : en = 0
  rotate_left
  · rw [if_neg h0]
    rw [if_neg (show ¬ en = 0 from h0), if_neg (show ¬ en = 0 from h0)]
    refine' reg_all hF ?_ mixed (by kernel_rfl) ?_
    rotate_left
    · repeat (first | exact Line.nil | ((refine' Line.cons rfl (.run rfl rfl ?_) ?_); (any_goals (first | exact cMove rfl rfl | exact OpOk.b (c := true) (cNeq rfl rfl rfl) (by rw [decide_eq_false h0]; rfl))); rotate_left))
    intro a w8 hF hb hN
    have hBs := hB.size
    replace hB := hB.trans (hb.mono hB.size)
    dsimp only [ext, Option.getD] at hF
    repeat with_reducible refine nThen ?_
    refine cond_t hF rfl ?_
    repeat with_reducible refine wp_seq ?_
    refine' reg_all hF ?_ mixed (by kernel_rfl) ?_
    rotate_left
    · repeat (first | exact Line.nil | ((refine' Line.cons rfl (.run rfl rfl ?_) ?_); (any_goals (first | exact cMove rfl rfl | exact cAssign rfl rfl)); rotate_left))
    intro a w9 hF hb hN
    have hBs := hB.size
    replace hB := hB.trans (hb.mono hB.size)
    dsimp only [ext, Option.getD] at hF
    repeat with_reducible first | refine nThen ?_ | refine wp_ret ?_ | refine rThen ?_
    refine ret3 hF rfl rfl rfl rfl fun a b c ha hb hc => ?_
    exact ⟨_, rfl, ⟨[a, b, c], rfl, by rw [show a = nilS from ha]; exact sumsR_nil _, by rw [show b = nilS from hb]; exact sumsR_nil _, hc, trivial⟩, hB⟩
  rw [if_pos h0]
  refine' reg_all hF ?_ mixed (by kernel_rfl) ?_
  rotate_left
  · repeat (first | exact Line.nil | ((refine' Line.cons rfl (.run rfl rfl ?_) ?_); (any_goals (first | exact cMove rfl rfl | exact OpOk.b (c := false) (cNeq rfl rfl rfl) (by rw [decide_eq_true h0]; rfl))); rotate_left))
  intro a w8 hF hb hN
  have hBs := hB.size
  replace hB := hB.trans (hb.mono hB.size)
  dsimp only [ext, Option.getD] at hF
  repeat with_reducible refine nThen ?_
  refine cond_f hF rfl ?_
  repeat with_reducible first | refine wp_seq ?_ | refine nThen ?_ | refine wp_skip ?_
  have hat8 := (Ty.at_ ResTR [p, q, .int .u64 (sd : Int), s']).below hat hb
  have r18 := (Ty.sums 77 P).below r1 hb
  have r28 := (Ty.sums 77 K).below r2 hb
  have hu8 := TM.below hu7 hb
  have e1 : decide ((0 : Int) < ((minusL K M).length : Int)) = decide (0 < (minusL K M).length) := decide_eq_decide.2 (by omega)
  have e2 : decide ((0 : Int) < ((bothL P M).length : Int)) = decide (0 < (bothL P M).length) := decide_eq_decide.2 (by omega)
  have hB9 := hB
  replace hB := Below.refl w8.heap.size w8
  refine wp_mono (Q := fun e a w' => e = .normal ∧ Fr 65 [(11, Ty.ex v11), (60, Ty.ex (.bool (decide (0 < (minusL K M).length) || decide (0 < (bothL P M).length))))] a w' ∧ Below w8.heap.size w8 w') ?_ ?_
  · cases hA : decide (0 < (minusL K M).length) with
    | true =>
      rw [hA] at e1
      rw [Bool.true_or]
      refine' reg_all hF ?_ mixed (by kernel_rfl) ?_
      rotate_left
      · repeat (first | exact Line.nil | (refine' Line.cons rfl (.no rfl rfl rfl rfl rfl rfl) ?_; rotate_left) | ((refine' Line.cons rfl (.run rfl rfl ?_) ?_); (any_goals (first | exact cMove rfl rfl | exact cResMR rfl (.l rfl hat8) | exact cLoad1 (u := q) rfl (.t rfl) (pts_at _ _) Tryz.underlying51 rfl | exact cCallS2 rfl (.l rfl r28) (.l rfl hu8) hmn | exact cLenH rfl (.t rfl) (Ty.seg_isSl _ _ _ _ _) Tryz.underlying51 | exact OpOk.b (cGtr rfl rfl rfl) e1 | exact cPickT rfl rfl rfl)); rotate_left))
      intro a w10 hF hb hN
      have hBs := hB.size
      replace hB := hB.trans (hb.mono hB.size)
      dsimp only [ext, Option.getD] at hF
      exact ⟨rfl, hF.keep [11, 60], hB⟩
    | false =>
      rw [hA] at e1
      rw [Bool.false_or]
      refine' reg_all hF ?_ mixed (by kernel_rfl) ?_
      rotate_left
      · repeat (first | exact Line.nil | ((first | refine' Line.cons rfl (.run rfl rfl ?_) ?_ | refine' Line.cons rfl (.yes rfl rfl rfl rfl ?_) ?_); (any_goals (first | exact cMove rfl rfl | exact cResMR rfl (.l rfl hat8) | exact cResPR rfl (.l rfl hat8) | exact cLoad1 (u := q) rfl (.t rfl) (pts_at _ _) Tryz.underlying51 rfl | exact cLoad1 (u := p) rfl (.t rfl) (pts_at _ _) Tryz.underlying51 rfl | exact cCallS2 rfl (.l rfl r28) (.l rfl hu8) hmn | exact cCallS2 rfl (.l rfl r18) (.l rfl hu8) hbt | exact cLenH rfl (.t rfl) (Ty.seg_isSl _ _ _ _ _) Tryz.underlying51 | exact OpOk.b (cGtr rfl rfl rfl) e1 | exact OpOk.b (cGtr rfl rfl rfl) e2 | exact cPickF rfl rfl rfl)); rotate_left))
      intro a w10 hF hb hN
      have hBs := hB.size
      replace hB := hB.trans (hb.mono hB.size)
      dsimp only [ext, Option.getD] at hF
      exact ⟨rfl, hF.keep [11, 60], hB⟩
  clear hF hB
  rintro e a w10 ⟨rfl, hF, hb⟩
  have hB := hB9.trans (hb.mono hB9.size)
  have hat9 := (Ty.at_ ResTR [p, q, .int .u64 (sd : Int), s']).below hat8 hb
  have r19 := (Ty.sums 77 P).below r18 hb
  have r29 := (Ty.sums 77 K).below r28 hb
  repeat with_reducible refine nThen ?_
  cases hbad : (decide (0 < (minusL K M).length) || decide (0 < (bothL P M).length)) with
  | true =>
    rw [hbad] at hF
    refine cond_t hF rfl ?_
    repeat with_reducible refine wp_seq ?_
    refine' reg_all hF ?_ mixed (by kernel_rfl) ?_
    rotate_left
    · repeat (first | exact Line.nil | ((refine' Line.cons rfl (.run rfl rfl ?_) ?_); (any_goals exact cAssign rfl rfl); rotate_left))
    intro a w11 hF hb hN
    have hBs := hB.size
    replace hB := hB.trans (hb.mono hB.size)
    dsimp only [ext, Option.getD] at hF
    repeat with_reducible first | refine nThen ?_ | refine wp_ret ?_ | refine rThen ?_
    refine ret3 hF rfl rfl rfl rfl fun a b c ha hb hc => ?_
    exact ⟨_, rfl, ⟨[a, b, c], rfl, by rw [show a = nilS from ha]; exact sumsR_nil _, by rw [show b = nilS from hb]; exact sumsR_nil _, hc, trivial⟩, hB⟩
  | false =>
    rw [hbad] at hF
    refine cond_f hF rfl ?_
    repeat with_reducible first | refine wp_seq ?_ | refine nThen ?_ | refine wp_skip ?_
    refine' reg_all hF ?_ mixed (by kernel_rfl) ?_
    rotate_left
    · repeat (first | exact Line.nil | ((refine' Line.cons rfl (.run rfl rfl ?_) ?_); (any_goals (first | exact cAssign rfl rfl | exact cResPR rfl (.l rfl hat9) | exact cResMR rfl (.l rfl hat9) | exact cLoad1 (u := p) rfl (.t rfl) (pts_at _ _) Tryz.underlying51 rfl | exact cLoad1 (u := q) rfl (.t rfl) (pts_at _ _) Tryz.underlying51 rfl)); rotate_left))
    intro a w11 hF hb hN
    have hBs := hB.size
    replace hB := hB.trans (hb.mono hB.size)
    dsimp only [ext, Option.getD] at hF
    repeat with_reducible first | refine nThen ?_ | refine wp_ret ?_
    refine ret3 hF rfl rfl rfl rfl fun a b c ha hb' hc => ?_
    exact ⟨_, rfl, ⟨[a, b, c], rfl, by rw [show a = p from ha]; exact (Ty.sums 77 P).below r19 hb, by rw [show b = q from hb']; exact (Ty.sums 77 K).below r29 hb, hc, trivial⟩, hB⟩
end Go.Proofs.YtmlbkcpmgcjblaaGreat

/- From a row's reading of an argument to what a walk takes: slices of bytes; whole numbers. -/
namespace Go.Proofs.YtmlbkcpmgcjblaaGreat
open Go.RowKit Go.ChangeShapes Go.WideShapes

theorem nat_of_wf {k : IntKind} {n : Int} (h : (Lit.int k n).wf = true) : k.min ≤ n ∧ n ≤ k.max := by
  simpa [Lit.wf] using h

end Go.Proofs.YtmlbkcpmgcjblaaGreat

/- From a row's reading of an argument to what a walk takes: whole numbers in a slice; sums of thirty-two bytes. -/
namespace Go.Proofs.YtmlbkcpmgcjblaaGreat
open Go.RowKit Go.ChangeShapes Go.WideShapes

theorem row_ints {H : Type} {enc : TypeId × Value → H} {P : Program} {W : World} {sp : Nat → Bool} {t e : TypeId} {a : Option Addr} {len cap : Nat} {d : DataW H} {ps : List MemPlace}
    (ht : P.underlying t = some (.slice e)) (he : P.underlying e = some (.int .i64)) (hc : P.cellsOf e = 1) (h : DataW.Trod enc P W 0 sp true t (.slice a len cap) d ps) :
    ∃ l : List Int, l.length = len ∧ len ≤ cap ∧ len ≤ maxLen ∧ Rd W a (l.map (Value.int .i64)) ∧ (a = none → len = 0) ∧ ∀ x ∈ l, -9223372036854775808 ≤ x ∧ x ≤ 9223372036854775807 := by
  obtain ⟨fuel, hf⟩ := h
  rcases open_ints ht he hc hf with ⟨hcs, _⟩ | ⟨x, l, c, zs, hcs, _, hl, hm, hz, _, hcell, hwz⟩
  · simp [Value.cells] at hcs
    obtain ⟨rfl, rfl, rfl⟩ := hcs
    exact ⟨[], rfl, Nat.le_refl _, Nat.zero_le _, Rd.nil _ _, fun _ => rfl, by simp⟩
  · simp [Value.cells] at hcs
    obtain ⟨rfl, rfl, rfl⟩ := hcs
    have hlz : len ≤ zs.length := by rw [hz]; split <;> omega
    refine ⟨zs.take len, by simp; omega, hl, by omega, ?_, by simp, ?_⟩
    · intro j v hv
      refine ⟨x, rfl, ?_⟩
      rw [List.getElem?_map, List.getElem?_take] at hv
      split at hv
      · rename_i hj
        have hjz : j < zs.length := by omega
        rw [List.getElem?_eq_getElem hjz] at hv
        simp only [Option.map_some, Option.some.injEq] at hv
        rw [hcell j hjz, ← hv]
        simp [List.getD, List.getElem?_eq_getElem hjz]
      · simp at hv
    · intro y hy
      have := nat_of_wf (hwz y (List.mem_of_mem_take hy))
      simpa [IntKind.min, IntKind.max, IntKind.signed, IntKind.bits] using this

theorem take1_drop {α : Type} {l : List α} {i : Nat} {v : α} (h : (l.drop i).take 1 = [v]) : l[i]? = some v := by
  have h1 : ((l.drop i).take 1)[0]? = some v := by rw [h]; rfl
  rw [List.getElem?_take, if_pos (by omega), List.getElem?_drop] at h1
  simpa using h1

/-- Thirty-two cells that read as an array of bytes are a sum. -/
theorem sm_of_cells {H : Type} {enc : TypeId × Value → H} {P : Program} {W : World} {base : Nat} {sp : Nat → Bool} {held : Bool} {t e : TypeId} {fuel : Nat} {cs : List Value} {x : DataW H × List MemPlace}
    (ht : P.underlying t = some (.array 32 e)) (he : P.underlying e = some (.int .u8)) (hC : P.cellsOf t = 32) (hc : P.cellsOf e = 1) (h : DataW.trod enc P W base sp held fuel t cs = some x) :
    ∃ s : Sm, cs = s.enc := by
  obtain ⟨xs, m, _, _, hlen, hxl, hi⟩ := DataW.trod_array ht h
  rw [hC] at hlen
  have hcell : ∀ i, i < 32 → ∃ n : Nat, cs[i]? = some (bv n) ∧ n < 256 := fun i hlt => by
    have h1 := hi i hlt
    rw [hc, Nat.mul_one, List.getElem?_eq_getElem (by omega)] at h1
    obtain ⟨n, h2, _, hw⟩ := DataW.trod_int he h1
    have hb := nat_of_wf hw
    simp only [IntKind.min, IntKind.max, IntKind.signed, IntKind.bits] at hb
    obtain ⟨k, rfl⟩ := Int.eq_ofNat_of_zero_le (show 0 ≤ n by simpa using hb.1)
    exact ⟨k, take1_drop h2, by have := hb.2; simp at this; omega⟩
  let f : Value → Nat := fun v => match v with | .int _ n => n.toNat | _ => 0
  have hfb : ∀ n : Nat, f (bv n) = n := fun n => by show (n : Int).toNat = n; omega
  refine ⟨⟨cs.map f, by simpa using hlen, ?_⟩, ?_⟩
  · intro b hb
    obtain ⟨v, hv, rfl⟩ := List.mem_map.1 hb
    obtain ⟨i, hiv⟩ := List.getElem?_of_mem hv
    obtain ⟨n, h1, h2⟩ := hcell i (by have := (List.getElem?_eq_some_iff.1 hiv).1; omega)
    rw [hiv] at h1
    injection h1 with h1
    rw [h1, hfb]; exact h2
  · unfold Sm.enc
    apply List.ext_getElem?
    intro i
    rw [List.getElem?_map, List.getElem?_map]
    by_cases hlt : i < 32
    · obtain ⟨n, h1, _⟩ := hcell i hlt
      rw [h1]
      simp only [Option.map_some, hfb]
    · rw [List.getElem?_eq_none (by omega)]; rfl
end Go.Proofs.YtmlbkcpmgcjblaaGreat

/- An argument that is a row of thirty-two bytes each, as a row of sums. -/
namespace Go.Proofs.YtmlbkcpmgcjblaaGreat
open Go.RowKit

end Go.Proofs.YtmlbkcpmgcjblaaGreat

/- An argument that is a row of cells. -/
namespace Go.Proofs.YtmlbkcpmgcjblaaGreat
open Go.RowKit

theorem cells_join65 {l : List Value} {v : Value} {K C : List Value} (h0 : (l.drop 0).take 1 = [v]) (h1 : (l.drop 1).take 32 = K) (h2 : (l.drop 33).take 32 = C) (hl : l.length = 65) : l = [v] ++ K ++ C := by
  subst h1 h2
  rw [← h0, List.drop_zero]
  have e1 : l = l.take 1 ++ l.drop 1 := (List.take_append_drop 1 l).symm
  have e2 : l.drop 1 = (l.drop 1).take 32 ++ (l.drop 1).drop 32 := (List.take_append_drop 32 _).symm
  have e3 : (l.drop 1).drop 32 = (l.drop 33).take 32 := by
    rw [List.drop_drop, List.take_of_length_le (by simp; omega)]
  rw [e3] at e2
  rw [List.append_assoc, ← e2, ← e1]
theorem cl_of_cells {H : Type} {enc : TypeId × Value → H} {W : World} {base : Nat} {sp : Nat → Bool} {held : Bool} {fuel : Nat} {cs : List Value} {x : DataW H × List MemPlace} (h : DataW.trod enc Tryz.prog W base sp held fuel 41 cs = some x) : ∃ c : Cl, cs = c.enc ∧ Norm c := by
  have hC : Tryz.prog.cellsOf 41 = 65 := by kernel_rfl
  have k2 : Tryz.prog.cellsOf 2 = 1 := by kernel_rfl
  have k27 : Tryz.prog.cellsOf 36 = 32 := by kernel_rfl
  obtain ⟨y0, y1, y2, n, _, hl, t0, t1, t2⟩ := Go.Deep.trod_struct3 Tryz.underlying41 h
  obtain ⟨n0, f0, _, hw⟩ := DataW.trod_int Tryz.underlying2 t0
  obtain ⟨K, hK⟩ := sm_of_cells Tryz.underlying36 Tryz.underlying5 (by kernel_rfl) (by kernel_rfl) t1
  obtain ⟨C, hCk⟩ := sm_of_cells Tryz.underlying36 Tryz.underlying5 (by kernel_rfl) (by kernel_rfl) t2
  simp only [k2, k27] at f0 hK hCk
  refine ⟨⟨n0, K, C⟩, ?_, ?_⟩
  · rw [cells_join65 f0 hK hCk (by rw [hl, hC])]
    simp [Cl.enc, Sm.enc]
  · simp only [Lit.wf, IntKind.min, IntKind.max, IntKind.signed, IntKind.bits] at hw
    unfold Norm
    exact w64_in (by simpa using hw)
/-- The reading of a row of cells. -/
def Ty.clsR (L : List Cl) : Ty := Ty.rd L.length (flatC L)
open Go.ChangeShapes Go.WideShapes Go.Deep in
theorem row_cells {H : Type} {enc : TypeId × Value → H} {W : World} {sp : Nat → Bool} {a : Option Addr} {len cap : Nat} {d : DataW H} {ps : List MemPlace}
    (h : DataW.Trod enc Tryz.prog W 0 sp true 24 (.slice a len cap) d ps) :
    ∃ L : List Cl, (Ty.clsR L).p W (.slice a len cap) ∧ NormT L := by
  have hC : Tryz.prog.cellsOf 41 = 65 := by kernel_rfl
  obtain ⟨fuel, hf⟩ := h
  rcases open_slice Tryz.underlying24 hf with ⟨hcs, _⟩ | ⟨x, l, c, m, n, D, Pl, hcs, _, hl, hm, hmm, _, hi⟩
  · simp [Value.cells] at hcs
    obtain ⟨rfl, rfl, rfl⟩ := hcs
    exact ⟨[], ⟨none, 0, rfl, Nat.zero_le _, fun _ => rfl, fun j u hu => by simp [flatC] at hu⟩, fun j hj => by simp at hj⟩
  · simp [Value.cells] at hcs
    obtain ⟨rfl, rfl, rfl⟩ := hcs
    have hlm : len ≤ m := by rw [hmm]; split <;> omega
    have hex : ∀ i, i < len → ∃ s : Cl, Rd W (some (x.add (i * 65))) s.enc ∧ Norm s := fun i hil => by
      obtain ⟨cs', h1, h2⟩ := hi i (by omega)
      rw [hC] at h1
      obtain ⟨s, rfl, hs⟩ := cl_of_cells h2
      obtain ⟨_, hcl, hat⟩ := World.cells?_some h1
      refine ⟨s, fun j v hv => ⟨_, rfl, ?_⟩, hs⟩
      have hj : j < 65 := by have := (List.getElem?_eq_some_iff.1 hv).1; rw [s.enc_len] at this; exact this
      have h3 := hat j hj
      rw [h3]
      exact hv
    have hfun : ∀ i : Fin len, ∃ s : Cl, Rd W (some (x.add (i.val * 65))) s.enc ∧ Norm s := fun i => hex i.val i.isLt
    obtain ⟨f, hf2⟩ := Classical.axiomOfChoice hfun
    have hget : ∀ i, (hil : i < len) → (List.ofFn f).getD i default = f ⟨i, hil⟩ := fun i hil => by
      simp only [List.getD]
      rw [List.getElem?_eq_getElem (by rw [List.length_ofFn]; exact hil), List.getElem_ofFn]
      rfl
    refine ⟨List.ofFn f, ⟨some x, cap, by rw [List.length_ofFn], by rw [List.length_ofFn]; omega, (fun e => by cases e), fun j v hv => ?_⟩, fun j hj => ?_⟩
    · have hj : j < len * 65 := by have := (List.getElem?_eq_some_iff.1 hv).1; rwa [flatC_len, List.length_ofFn] at this
      have hq : j / 65 < len := by omega
      have h1 : ((flatC (List.ofFn f)).drop (j / 65 * 65))[j % 65]? = some v := by
        rw [List.getElem?_drop, show j / 65 * 65 + j % 65 = j by omega]; exact hv
      rw [flatC_at _ (by rw [List.length_ofFn]; exact hq), List.getElem?_append_left (by rw [Cl.enc_len]; omega), hget _ hq] at h1
      obtain ⟨ad2, e2, h2⟩ := (hf2 ⟨j / 65, hq⟩).1 (j % 65) v h1
      injection e2 with e2
      subst e2
      refine ⟨x, rfl, ?_⟩
      rw [add_add, show j / 65 * 65 + j % 65 = j by omega] at h2
      exact h2
    · rw [List.length_ofFn] at hj
      rw [hget j hj]
      exact (hf2 ⟨j, hj⟩).2
end Go.Proofs.YtmlbkcpmgcjblaaGreat

/- Layer 16 by types: PeelMakes. -/
namespace Go.Proofs.YtmlbkcpmgcjblaaGreat
open Go.RowKit

section
variable {P : Program} {ops : Array Oper} {Q : Exit → Act → World → Prop} {N : Nat} {Γ : Ctx} {a : Act} {w : World} {o1 o2 : Oper} {rest : List Oper}
/-- A variable made, and a table of one's own stored there. -/
theorem tlNewTabS2 {T e : TypeId} {p q : Nat} {seed : Nat} {L : List Cl} {w1 : World} (hF : Fr N Γ a w) (h1 : o1.op = .alloc T) (hg1 : o1.guard = none) (hd1 : o1.dst = some p) (hp : p < N) (hpq : Nat.beq p q = false)
    (hz : ∀ w : World, (Instr.alloc T true (.tuple #[])).run P w = .ok (.pointer (some ⟨w.heap.size, 0, none⟩)) (w.alloc (.cells #[.int .u64 0, .slice none 0 0] T)))
    (h2 : o2.op = .store T (.tmp p) (.tmp q)) (hg2 : o2.guard = none) (hd2 : o2.dst = none) (hq : look Γ q = some (Ty.tabO w1 e seed L)) (hi : (P.info? T).map (·.size) = some 2)
    (hk : ∀ a' w' s, Fr N ((p, Ty.ex (.pointer (some ⟨w.heap.size, 0, none⟩))) :: Γ) a' w' → Below w.heap.size w w' → Blk w' w.heap.size T #[.int .u64 (seed : Int), s] → (Ty.seg w1 e 65 L.length (flatC L)).p w' s → wpList P ops Q rest a' w') : wpList P ops Q (o1 :: o2 :: rest) a w := by
  obtain ⟨v, hv2, hFo⟩ := hF.open hq
  obtain ⟨s, rfl, hs⟩ := hv2
  refine wpList_plain hg1 fun K hK => ?_
  unfold Oper.wp execOp
  simp only [h1, Sem.run_bind, hz, Result.andThen_ok, Sem.run_pure]
  refine hK _ _ ?_
  rw [hd1]
  have hb1 : Below w.heap.size w (w.alloc (.cells #[.int .u64 0, .slice none 0 0] T)) := ((Keeps.refl [] w).alloc _).below
  have hF1 : Fr N ((p, Ty.ex (.pointer (some ⟨w.heap.size, 0, none⟩))) :: (q, Ty.ex (.agg #[.int .u64 (seed : Int), s])) :: Γ) (a.put (some p) (.pointer (some ⟨w.heap.size, 0, none⟩))) (w.alloc (.cells #[.int .u64 0, .slice none 0 0] T)) := hFo.put hp hb1 rfl
  have hv3 := hF1.getEx (s := q) (v := .agg #[.int .u64 (seed : Int), s]) (by rw [look]; simp only [hpq, cond_false]; exact look_same _ _ _)
  refine tlStoreV (Δ := []) hF1 hg2 hd2 h2 (look_same _ _ _) hv3 (Blk.new w _ _) rfl (by rw [hi]; rfl) (sl_one (seg_sl _ _ hs) _) (hF1.keep []) rfl ?_
  intro w' _ hb' hkx
  have hB := below_own hb1 hkx (by intro y hy; simp only [List.mem_singleton] at hy; omega)
  exact hk _ _ s (hF.put hp hB rfl) hB (by simpa [Value.cells] using hb') ((Ty.seg w1 e 65 L.length (flatC L)).below hs hB)
end
/-- Raw cells that are not of none, laid over a table's first i. -/
def mixC (R T : List Cl) : Nat → List Cl
  | 0 => T
  | i + 1 => if (R.getD i default).n = 0 then mixC R T i else (mixC R T i).set i (R.getD i default)
theorem mixC_len (R T : List Cl) : ∀ i, (mixC R T i).length = T.length
  | 0 => rfl
  | i + 1 => by
    unfold mixC
    split
    · exact mixC_len R T i
    · rw [List.length_set]; exact mixC_len R T i
section
variable {P : Program} {w0 : World} {Γ : Ctx} {o : Oper}
/-- The first field of a struct that is read. -/
theorem cFieldR0 {t ft : TypeId} {fs : Array Field} {sz : Nat} {x : Operand} {xs : List Value} (ho : o.op = .fieldAddr t x 0) (hx : Has w0 Γ x (Ty.atR xs)) (hu : P.underlying t = some (.struct fs)) (hf : (fs[0]?).map (fun f => (f.type, f.offset)) = some (ft, 0)) (hz : (P.info? ft).map (·.size) = some (sz + 1)) : OpOk P w0 Γ o (Ty.atR xs) :=
  .val fun a w hb hs => by
    obtain ⟨v, h1, ad, rfl, h2, h3⟩ := hx.see hs (by simp [ho, Op.operands]) hb
    obtain ⟨f, k1, k2⟩ := Option.map_eq_some_iff.1 hf
    simp only [Prod.mk.injEq] at k2
    obtain ⟨rfl, k3⟩ := k2
    obtain ⟨inf, hinf, hsz⟩ := Option.map_eq_some_iff.1 hz
    refine ⟨.pointer (some ad), ⟨ad, rfl, h2, h3⟩, ?_⟩
    unfold execOp
    simp [ho, h1, Instr.fieldAt, fieldPlace, run_underlying hu, k1, k3, Instr.sureAddr, sizeOf, typeInfo, hinf, hsz, Addr.add]
end
theorem cLoadClR {w0 : World} {Γ : Ctx} {o : Oper} {x : Operand} {c : Cl} {ys : List Value} (ho : o.op = .load 41 x) (hx : Has w0 Γ x (Ty.atR (c.enc ++ ys))) : OpOk Tryz.prog w0 Γ o (Ty.ex (.agg c.a)) := by
  have h := cLoadK (P := Tryz.prog) ho hx (pts_atR _) Tryz.underlying41 rfl info34 (by rw [List.length_append, c.enc_len]; omega)
  rwa [List.take_append_of_le_length (by rw [c.enc_len]; exact Nat.le_refl _), List.take_of_length_le (by rw [c.enc_len]; exact Nat.le_refl _)] at h
end Go.Proofs.YtmlbkcpmgcjblaaGreat

/- The laws' small helpers row, own: they hand back rows of the call's own. -/
namespace Go.Proofs.YtmlbkcpmgcjblaaGreat
open Go.RowKit

set_option maxRecDepth 100000 in
theorem own16_seg (L : List Sm) (hL : L.length ≤ 1000000) : FnSeg1 Tryz.prog 14 (Ty.sums 36 L) 77 32 L.length (flat L) := by
  refine ⟨fun args w => by kernel_rfl, fun w v hv => ?_⟩
  refine enter_ty 19 [Ty.ex v] Tryz.func14 rfl (by kernel_rfl) ⟨rfl, trivial⟩ fun a hF => ?_
  have hB := Below.refl w.heap.size w
  repeat with_reducible refine wp_seq ?_
  refine' reg_all hF ?_ mixed (by kernel_rfl) ?_
  rotate_left
  · repeat (first | exact Line.nil | ((refine' Line.cons rfl (.run rfl rfl ?_) ?_); (any_goals exact cAssign rfl rfl); rotate_left))
  intro a w1 hF hb hN
  have hBs := hB.size
  replace hB := hB.trans (hb.mono hB.size)
  dsimp only [ext, Option.getD] at hF
  repeat with_reducible first | refine wp_seq ?_ | refine nThen ?_
  refine' reg_all hF ?_ mixed (by kernel_rfl) ?_
  rotate_left
  · repeat (first | exact Line.nil | ((refine' Line.cons rfl (.run rfl rfl ?_) ?_); (any_goals exact cAssign rfl rfl); rotate_left))
  intro a w2 hF hb hN
  have hBs := hB.size
  replace hB := hB.trans (hb.mono hB.size)
  dsimp only [ext, Option.getD] at hF
  repeat with_reducible first | refine wp_seq ?_ | refine nThen ?_
  refine' reg_all hF ?_ mixed (by kernel_rfl) ?_
  rotate_left
  · repeat (first | exact Line.nil | ((refine' Line.cons rfl (.run rfl rfl ?_) ?_); (any_goals exact cAssign rfl rfl); rotate_left))
  intro a w3 hF hb hN
  have hBs := hB.size
  replace hB := hB.trans (hb.mono hB.size)
  dsimp only [ext, Option.getD] at hF
  repeat with_reducible first | refine nThen ?_ | refine wp_block ?_
  refine loop_ty (fun m a wr => ∃ (k : Nat) (u : Value) (S : List Nat), k + m = L.length ∧ Fr 19 [(0, Ty.ex v), (4, Ty.ex (.int .i64 (k : Int))), (3, Ty.ex u)] a wr ∧ Below w.heap.size w wr ∧ Seg wr 77 32 u k (flat (L.take k)) S ∧ ∀ y ∈ S, w.heap.size ≤ y) L.length ?_ ?_
  · exact ⟨0, _, [], by omega, hF.keep [0, 4, 3], hB, Seg.nil _ _ _, by simp⟩
  clear hF hB
  rintro m a wr ⟨k, u, S, hk, hF, hB, hseg, hS⟩
  repeat with_reducible refine wp_seq ?_
  refine' reg_all hF ?_ mixed (by kernel_rfl) ?_
  rotate_left
  · repeat (first | exact Line.nil | ((refine' Line.cons rfl (.run rfl rfl ?_) ?_); (any_goals (first | exact cMove rfl rfl | exact cLenH rfl (.l rfl ((Ty.sums 36 L).below hv hB)) (Ty.sl_isSl _ _ _) Tryz.underlying32 | exact cLss rfl rfl rfl)); rotate_left))
  intro a w4 hF hb hN
  have hBs := hB.size
  replace hB := hB.trans (hb.mono hB.size)
  dsimp only [ext, Option.getD] at hF
  repeat with_reducible refine nThen ?_
  replace hseg := hseg.below hb
  refine cond_ty hF rfl (fun hlt => ?_) (fun hge => ?_)
  · have hlt : k < L.length := by simpa using hlt
    repeat with_reducible first | refine wp_seq ?_ | refine nThen ?_ | refine wp_skip ?_ | refine wp_block ?_
    refine' region_ty 6 mixed (by kernel_rfl) hF ?_ ?_
    rotate_left
    · simp only [List.take_succ_cons, List.take_zero]
      repeat (first | exact Line.nil | ((refine' Line.cons rfl (.run rfl rfl ?_) ?_); (any_goals (first | exact cMove rfl rfl | exact cIndexSum rfl (.l rfl ((Ty.sums 36 L).below hv hB)) rfl Tryz.underlying32 sizeS hlt | exact cLoadSum rfl (.t rfl) Tryz.underlying36 sizeS | exact cBuildSums [L.getD k default] rfl (parts1v rfl rfl) Tryz.underlying51 infoR rfl)); rotate_left))
    intro a w5 hF hb hN
    have hBs := hB.size
    replace hB := hB.trans (hb.mono hB.size)
    simp only [List.take_succ_cons, List.take_zero, List.drop_succ_cons, List.drop_zero] at hF hN ⊢
    dsimp only [ext, Option.getD] at hF
    replace hseg := hseg.below hb
    refine tlAppend (Δ := [(0, Ty.ex v), (4, Ty.ex (.int .i64 (k : Int)))]) hF rfl rfl rfl rfl Tryz.underlying51 infoR zero32_size rfl hseg (.t rfl) sl_news (flat_len _) flat_one' (by simp [maxLen]; omega) (by simp; omega) (hF.keep [0, 4]) rfl ?_
    intro a w6 u' S' hF hseg hk2 hS'
    replace hS' := own_next hB hS hS'
    replace hB := below_own hB hk2 hS
    refine' tlOp hF rfl rfl rfl ?_ ?_
    rotate_left
    · exact cAssign rfl rfl
    intro a w7 hF hb
    have hBs := hB.size
    replace hB := hB.trans (hb.mono hB.size)
    try (refine wpList_nil ?_)
    repeat with_reducible first | refine nThen ?_ | refine nBlk ?_
    replace hseg := hseg.below hb
    refine' reg_all hF ?_ mixed (by kernel_rfl) ?_
    rotate_left
    · repeat (first | exact Line.nil | ((refine' Line.cons rfl (.run rfl rfl ?_) ?_); (any_goals (first | exact cMove rfl rfl | exact cAssign rfl rfl | exact cAdd (r := ((k + 1 : Nat) : Int)) rfl rfl rfl (by omega))); rotate_left))
    intro a w8 hF hb hN
    have hBs := hB.size
    replace hB := hB.trans (hb.mono hB.size)
    dsimp only [ext, Option.getD] at hF
    repeat with_reducible refine nThen ?_
    rw [flat_one, flat_snoc L hlt] at hseg
    exact ⟨m - 1, by omega, k + 1, u', S', by omega, hF.keep [0, 4, 3], hB, hseg.below hb, hS'⟩
  · have hge : ¬ k < L.length := by simpa using hge
    obtain rfl : k = L.length := by omega
    rw [List.take_length] at hseg
    repeat with_reducible first | refine wp_seq ?_ | refine nThen ?_ | refine wp_exit ?_ | refine xThen ?_ | refine xHere ?_
    refine' reg_all hF ?_ mixed (by kernel_rfl) ?_
    rotate_left
    · repeat (first | exact Line.nil | ((refine' Line.cons rfl (.run rfl rfl ?_) ?_); (any_goals (first | exact cMove rfl rfl | exact cAssign rfl rfl)); rotate_left))
    intro a w5 hF hb hN
    have hBs := hB.size
    replace hB := hB.trans (hb.mono hB.size)
    dsimp only [ext, Option.getD] at hF
    repeat with_reducible first | refine nThen ?_ | refine wp_ret ?_
    refine ret1 hF rfl rfl fun z hz => ?_
    have hz : z = u := hz
    subst hz
    exact ⟨z, rfl, ⟨S, hseg.below hb, hS⟩, hB⟩
end Go.Proofs.YtmlbkcpmgcjblaaGreat

/- Layer 16 by types: PeelSays. -/
namespace Go.Proofs.YtmlbkcpmgcjblaaGreat
open Go.RowKit

theorem tall_next' (seed : Nat) (L : List Cl) (l : List Int) {k : Nat} (h : k < l.length) (n : Int) : tall seed L ((l.map fewS).take (k + 1)) n = tput seed (tall seed L ((l.map fewS).take k) n) (fewS (l.getD k 0)) n := by
  rw [take_snocS l h, tall_snoc]
set_option maxRecDepth 100000 in
set_option maxHeartbeats 8000000 in
theorem lawPeelSays_any (seed : Nat) (n : Int) (la lb : List Int) (R : List Cl) {W : World} {v2 v3 v4 : Value} (hsd : seed < 18446744073709551616) (h2 : (Ty.rd la.length (la.map ivz)).p W v2) (h3 : (Ty.rd lb.length (lb.map ivz)).p W v3) (h4 : (Ty.clsR R).p W v4) : Calls Tryz.prog 3 #[.int .u64 (seed : Int), .int .i64 n, v2, v3, v4] W fun e w' => e = .returned (.bool true) ∧ Below W.heap.size W w' := by
  let TR := Ty.rd R.length (flatC R)
  let TA := Ty.rd la.length (la.map ivz)
  let TB := Ty.rd lb.length (lb.map ivz)
  replace h4 : TR.p W v4 := h4
  refine enter_ty 182 [Ty.ex (.int .u64 (seed : Int)), Ty.ex (.int .i64 n), Ty.ex v2, Ty.ex v3, Ty.ex v4] Tryz.func3 rfl (by kernel_rfl) ⟨rfl, rfl, rfl, rfl, rfl, trivial⟩ fun a hF => ?_
  have hB := Below.refl W.heap.size W
  repeat with_reducible refine wp_seq ?_
  refine' reg_all hF ?_ mixed (by kernel_rfl) ?_
  rotate_left
  · repeat (first | exact Line.nil | ((refine' Line.cons rfl (.run rfl rfl ?_) ?_); (any_goals exact cAssign rfl rfl); rotate_left))
  intro a w1 hF hb hN
  have hBs := hB.size
  replace hB := hB.trans (hb.mono hB.size)
  dsimp only [ext, Option.getD] at hF
  repeat with_reducible first | refine wp_seq ?_ | refine nThen ?_
  refine' reg_all hF ?_ mixed (by kernel_rfl) ?_
  rotate_left
  · repeat (first | exact Line.nil | ((refine' Line.cons rfl (.run rfl rfl ?_) ?_); (any_goals (first | exact cNot rfl rfl | exact cCall0 rfl awake16_ty)); rotate_left))
  intro a w2 hF hb hN
  have hBs := hB.size
  replace hB := hB.trans (hb.mono hB.size)
  dsimp only [ext, Option.getD] at hF
  repeat with_reducible refine nThen ?_
  refine cond_f hF rfl ?_
  repeat with_reducible first | refine wp_seq ?_ | refine nThen ?_ | refine wp_skip ?_
  have k2 := TA.below h2 hB
  have k3 := TB.below h3 hB
  have k4 := TR.below h4 hB
  by_cases c1 : (30 : Int) < la.length
  · refine' reg_all hF ?_ mixed (by kernel_rfl) ?_
    rotate_left
    · repeat (first | exact Line.nil | (refine' Line.cons rfl (.no rfl rfl rfl rfl rfl rfl) ?_; rotate_left) | ((refine' Line.cons rfl (.run rfl rfl ?_) ?_); (any_goals (first | exact cMove rfl rfl | exact cLenH rfl (.l rfl k2) (Ty.rd_isSl _ _) Tryz.underlying23 | exact OpOk.b (c := true) (cGtr rfl rfl rfl) (decide_eq_true (by omega)) | exact cPickT rfl rfl rfl)); rotate_left))
    intro a w3 hF hb hN
    have hBs := hB.size
    replace hB := hB.trans (hb.mono hB.size)
    dsimp only [ext, Option.getD] at hF
    repeat with_reducible refine nThen ?_
    refine cond_t hF rfl ?_
    repeat with_reducible refine wp_seq ?_
    refine' reg_all hF ?_ mixed (by kernel_rfl) ?_
    rotate_left
    · repeat (first | exact Line.nil | ((refine' Line.cons rfl (.run rfl rfl ?_) ?_); (any_goals exact cAssign rfl rfl); rotate_left))
    intro a w4 hF hb hN
    have hBs := hB.size
    replace hB := hB.trans (hb.mono hB.size)
    dsimp only [ext, Option.getD] at hF
    repeat with_reducible first | refine nThen ?_ | refine wp_ret ?_ | refine rThen ?_
    refine ret1 hF rfl rfl fun z hz => ?_
    exact ⟨by rw [show z = .bool true from hz], hB⟩
  by_cases c2 : (30 : Int) < lb.length
  · refine' reg_all hF ?_ mixed (by kernel_rfl) ?_
    rotate_left
    · repeat (first | exact Line.nil | (refine' Line.cons rfl (.no rfl rfl rfl rfl rfl rfl) ?_; rotate_left) | ((first | refine' Line.cons rfl (.run rfl rfl ?_) ?_ | refine' Line.cons rfl (.yes rfl rfl rfl rfl ?_) ?_); (any_goals (first | exact cMove rfl rfl | exact cLenH rfl (.l rfl k2) (Ty.rd_isSl _ _) Tryz.underlying23 | exact cLenH rfl (.l rfl k3) (Ty.rd_isSl _ _) Tryz.underlying23 | exact OpOk.b (c := true) (cGtr rfl rfl rfl) (decide_eq_true (by omega)) | exact OpOk.b (c := false) (cGtr rfl rfl rfl) (decide_eq_false (by omega)) | exact cPickT rfl rfl rfl | exact cPickF rfl rfl rfl)); rotate_left))
    intro a w3 hF hb hN
    have hBs := hB.size
    replace hB := hB.trans (hb.mono hB.size)
    dsimp only [ext, Option.getD] at hF
    repeat with_reducible refine nThen ?_
    refine cond_t hF rfl ?_
    repeat with_reducible refine wp_seq ?_
    refine' reg_all hF ?_ mixed (by kernel_rfl) ?_
    rotate_left
    · repeat (first | exact Line.nil | ((refine' Line.cons rfl (.run rfl rfl ?_) ?_); (any_goals exact cAssign rfl rfl); rotate_left))
    intro a w4 hF hb hN
    have hBs := hB.size
    replace hB := hB.trans (hb.mono hB.size)
    dsimp only [ext, Option.getD] at hF
    repeat with_reducible first | refine nThen ?_ | refine wp_ret ?_ | refine rThen ?_
    refine ret1 hF rfl rfl fun z hz => ?_
    exact ⟨by rw [show z = .bool true from hz], hB⟩
  by_cases c3 : 60 < n
  · refine' reg_all hF ?_ mixed (by kernel_rfl) ?_
    rotate_left
    · repeat (first | exact Line.nil | (refine' Line.cons rfl (.no rfl rfl rfl rfl rfl rfl) ?_; rotate_left) | ((first | refine' Line.cons rfl (.run rfl rfl ?_) ?_ | refine' Line.cons rfl (.yes rfl rfl rfl rfl ?_) ?_); (any_goals (first | exact cMove rfl rfl | exact cLenH rfl (.l rfl k2) (Ty.rd_isSl _ _) Tryz.underlying23 | exact cLenH rfl (.l rfl k3) (Ty.rd_isSl _ _) Tryz.underlying23 | exact OpOk.b (c := true) (cGtr rfl rfl rfl) (decide_eq_true (by omega)) | exact OpOk.b (c := false) (cGtr rfl rfl rfl) (decide_eq_false (by omega)) | exact cPickT rfl rfl rfl | exact cPickF rfl rfl rfl)); rotate_left))
    intro a w3 hF hb hN
    have hBs := hB.size
    replace hB := hB.trans (hb.mono hB.size)
    dsimp only [ext, Option.getD] at hF
    repeat with_reducible refine nThen ?_
    refine cond_t hF rfl ?_
    repeat with_reducible refine wp_seq ?_
    refine' reg_all hF ?_ mixed (by kernel_rfl) ?_
    rotate_left
    · repeat (first | exact Line.nil | ((refine' Line.cons rfl (.run rfl rfl ?_) ?_); (any_goals exact cAssign rfl rfl); rotate_left))
    intro a w4 hF hb hN
    have hBs := hB.size
    replace hB := hB.trans (hb.mono hB.size)
    dsimp only [ext, Option.getD] at hF
    repeat with_reducible first | refine nThen ?_ | refine wp_ret ?_ | refine rThen ?_
    refine ret1 hF rfl rfl fun z hz => ?_
    exact ⟨by rw [show z = .bool true from hz], hB⟩
  by_cases c4 : (60 : Int) < R.length
  · refine' reg_all hF ?_ mixed (by kernel_rfl) ?_
    rotate_left
    · repeat (first | exact Line.nil | ((first | refine' Line.cons rfl (.run rfl rfl ?_) ?_ | refine' Line.cons rfl (.yes rfl rfl rfl rfl ?_) ?_); (any_goals (first | exact cMove rfl rfl | exact cLenH rfl (.l rfl k4) (Ty.rd_isSl _ _) Tryz.underlying24 | exact cLenH rfl (.l rfl k2) (Ty.rd_isSl _ _) Tryz.underlying23 | exact cLenH rfl (.l rfl k3) (Ty.rd_isSl _ _) Tryz.underlying23 | exact OpOk.b (c := true) (cGtr rfl rfl rfl) (decide_eq_true (by omega)) | exact OpOk.b (c := false) (cGtr rfl rfl rfl) (decide_eq_false (by omega)) | exact cPickF rfl rfl rfl)); rotate_left))
    intro a w3 hF hb hN
    have hBs := hB.size
    replace hB := hB.trans (hb.mono hB.size)
    dsimp only [ext, Option.getD] at hF
    repeat with_reducible refine nThen ?_
    refine cond_t hF rfl ?_
    repeat with_reducible refine wp_seq ?_
    refine' reg_all hF ?_ mixed (by kernel_rfl) ?_
    rotate_left
    · repeat (first | exact Line.nil | ((refine' Line.cons rfl (.run rfl rfl ?_) ?_); (any_goals exact cAssign rfl rfl); rotate_left))
    intro a w4 hF hb hN
    have hBs := hB.size
    replace hB := hB.trans (hb.mono hB.size)
    dsimp only [ext, Option.getD] at hF
    repeat with_reducible first | refine nThen ?_ | refine wp_ret ?_ | refine rThen ?_
    refine ret1 hF rfl rfl fun z hz => ?_
    exact ⟨by rw [show z = .bool true from hz], hB⟩
  have f1 := few16_ty la TA (reads_rd _ _) (by omega)
  have f2 := few16_ty lb TB (reads_rd _ _) (by omega)
  have hXl := fewL_len la
  have hMl := fewL_len lb
  generalize fewL la = X at *
  generalize fewL lb = M at *
  have o1 := tof_ty seed n X (by omega) hsd
  refine' reg_all hF ?_ mixed (by kernel_rfl) ?_
  rotate_left
  · repeat (first | exact Line.nil | ((first | refine' Line.cons rfl (.run rfl rfl ?_) ?_ | refine' Line.cons rfl (.yes rfl rfl rfl rfl ?_) ?_); (any_goals (first | exact cMove rfl rfl | exact cLenH rfl (.l rfl k4) (Ty.rd_isSl _ _) Tryz.underlying24 | exact cLenH rfl (.l rfl k2) (Ty.rd_isSl _ _) Tryz.underlying23 | exact cLenH rfl (.l rfl k3) (Ty.rd_isSl _ _) Tryz.underlying23 | exact OpOk.b (c := false) (cGtr rfl rfl rfl) (decide_eq_false (by omega)) | exact cPickF rfl rfl rfl)); rotate_left))
  intro a w3 hF hb hN
  have hBs := hB.size
  replace hB := hB.trans (hb.mono hB.size)
  dsimp only [ext, Option.getD] at hF
  repeat with_reducible refine nThen ?_
  refine cond_f hF rfl ?_
  repeat with_reducible first | refine wp_seq ?_ | refine nThen ?_ | refine wp_skip ?_
  clear k2 k3 k4
  by_cases hg : goodN n = true
  rotate_left
  · have hg : goodN n = false := by simpa using hg
    rw [newE_bad hg] at o1
    refine wp_region_lit ?_
    refine' tlOp hF rfl rfl rfl ?_ ?_
    rotate_left
    · exact cMove rfl rfl
    intro a w5_0 hF hb
    replace hB := hB.trans (hb.mono hB.size)
    refine' tlOp hF rfl rfl rfl ?_ ?_
    rotate_left
    · exact cMove rfl rfl
    intro a w5_1 hF hb
    replace hB := hB.trans (hb.mono hB.size)
    refine' tlOp hF rfl rfl rfl ?_ ?_
    rotate_left
    · exact cMove rfl rfl
    intro a w5_2 hF hb
    replace hB := hB.trans (hb.mono hB.size)
    refine' tlOp hF rfl rfl rfl ?_ ?_
    rotate_left
    · exact cCallS1 rfl (.l rfl (TA.below h2 hB)) f1
    intro a w5_3 hF hb
    replace hB := hB.trans (hb.mono hB.size)
    refine' tlOp hF rfl rfl rfl ?_ ?_
    rotate_left
    · exact cCallR3 rfl (.t rfl) (.t rfl) (Has.c (.t rfl) seg_sl) o1 (tabE_olds _ _ _ _)
    intro a w5_4 hF hb
    replace hB := hB.trans (hb.mono hB.size)
    refine' tlOp hF rfl rfl rfl ?_ ?_
    rotate_left
    · exact cMove rfl rfl
    intro a w5_5 hF hb
    replace hB := hB.trans (hb.mono hB.size)
    refine' tlOp hF rfl rfl rfl ?_ ?_
    rotate_left
    · exact cExtT rfl rfl
    intro a w5_t hF hb
    replace hB := hB.trans (hb.mono hB.size)
    refine' tlOp hF rfl rfl rfl ?_ ?_
    rotate_left
    · exact cExtE rfl rfl
    intro a w5_e hF hb
    replace hB := hB.trans (hb.mono hB.size)
    refine tlNewTab hF rfl rfl rfl (by decide) rfl (run_alloc_i infoT46) rfl rfl rfl rfl tabO_tab sizeT46 fun a w5_n hF hb => ?_
    replace hB := hB.trans (hb.mono hB.size)
    refine' tlOp hF rfl rfl rfl ?_ ?_
    rotate_left
    · exact cAssign rfl rfl
    intro a w5 hF hb
    replace hB := hB.trans (hb.mono hB.size)
    try (refine wpList_nil ?_)
    repeat with_reducible first | refine wp_seq ?_ | refine nThen ?_
    refine' reg_all hF ?_ mixed (by kernel_rfl) ?_
    rotate_left
    · repeat (first | exact Line.nil | ((refine' Line.cons rfl (.run rfl rfl ?_) ?_); (any_goals (first | exact cMove rfl rfl | exact OpOk.b (c := true) (cNeq rfl rfl rfl) rfl)); rotate_left))
    intro a w7 hF hb hN
    have hBs := hB.size
    replace hB := hB.trans (hb.mono hB.size)
    dsimp only [ext, Option.getD] at hF
    repeat with_reducible refine nThen ?_
    refine cond_t hF rfl ?_
    repeat with_reducible refine wp_seq ?_
    refine' reg_all hF ?_ mixed (by kernel_rfl) ?_
    rotate_left
    · repeat (first | exact Line.nil | ((refine' Line.cons rfl (.run rfl rfl ?_) ?_); (any_goals (first | exact cMove rfl rfl | exact cAssign rfl rfl | exact OpOk.b (c := true) (cEql rfl rfl rfl) rfl)); rotate_left))
    intro a w8 hF hb hN
    have hBs := hB.size
    replace hB := hB.trans (hb.mono hB.size)
    dsimp only [ext, Option.getD] at hF
    repeat with_reducible first | refine nThen ?_ | refine wp_ret ?_ | refine rThen ?_
    refine ret1 hF rfl rfl fun z hz => ?_
    exact ⟨by rw [show z = .bool true from hz], hB⟩
  rw [newE_good hg, newS_good hg] at o1
  obtain ⟨N, hN, hN1, hN2⟩ := goodN_rng hg
  have hAl : (ofL seed n X).length = N := by rw [ofL_len hg]; omega
  generalize ofL seed n X = A at *
  refine wp_region_lit ?_
  refine' tlOp hF rfl rfl rfl ?_ ?_
  rotate_left
  · exact cMove rfl rfl
  intro a w5_0 hF hb
  replace hB := hB.trans (hb.mono hB.size)
  have hz_w5_0 := hB.size
  refine' tlOp hF rfl rfl rfl ?_ ?_
  rotate_left
  · exact cMove rfl rfl
  intro a w5_1 hF hb
  replace hB := hB.trans (hb.mono hB.size)
  have hz_w5_1 := hB.size
  refine' tlOp hF rfl rfl rfl ?_ ?_
  rotate_left
  · exact cMove rfl rfl
  intro a w5_2 hF hb
  replace hB := hB.trans (hb.mono hB.size)
  have hz_w5_2 := hB.size
  refine' tlOp hF rfl rfl rfl ?_ ?_
  rotate_left
  · exact cCallS1 rfl (.l rfl (TA.below h2 hB)) f1
  intro a w5_3 hF hb
  replace hB := hB.trans (hb.mono hB.size)
  have hz_w5_3 := hB.size
  refine' tlOp hF rfl rfl rfl ?_ ?_
  rotate_left
  · exact cCallR3 rfl (.t rfl) (.t rfl) (Has.c (.t rfl) seg_sl) o1 (tabE_olds _ _ _ _)
  intro a w5_4 hF hb
  replace hB := hB.trans (hb.mono hB.size)
  have hz_w5_4 := hB.size
  refine' tlOp hF rfl rfl rfl ?_ ?_
  rotate_left
  · exact cMove rfl rfl
  intro a w5_5 hF hb
  replace hB := hB.trans (hb.mono hB.size)
  have hz_w5_5 := hB.size
  refine' tlOp hF rfl rfl rfl ?_ ?_
  rotate_left
  · exact cExtT rfl rfl
  intro a w5_t hF hb
  replace hB := hB.trans (hb.mono hB.size)
  have hz_w5_t := hB.size
  refine' tlOp hF rfl rfl rfl ?_ ?_
  rotate_left
  · exact cExtE rfl rfl
  intro a w5_e hF hb
  replace hB := hB.trans (hb.mono hB.size)
  have hz_w5_e := hB.size
  have hBa := hB
  refine tlNewTabS2 hF rfl rfl rfl (by decide) rfl (run_alloc_i infoT46) rfl rfl rfl rfl sizeT46 fun a w5_n s hF hb hbT hsT => ?_
  replace hB := hB.trans (hb.mono hB.size)
  refine' tlOp hF rfl rfl rfl ?_ ?_
  rotate_left
  · exact cAssign rfl rfl
  intro a w5 hF hb
  replace hB := hB.trans (hb.mono hB.size)
  have hz_w5 := hB.size
  try (refine wpList_nil ?_)
  repeat with_reducible first | refine wp_seq ?_ | refine nThen ?_
  have hgT : W.heap.size ≤ w5_e.heap.size := hBa.size
  replace hbT := hbT.below hb
  replace hsT := (Ty.seg _ 41 65 A.length (flatC A)).below hsT hb
  obtain ⟨S, hseg, hS⟩ := hsT
  have hSW : ∀ y ∈ S, W.heap.size ≤ y := fun y hy => by have := hS y hy; omega
  obtain ⟨g11, eg⟩ : ∃ g, g = w5_e.heap.size := ⟨_, rfl⟩
  rw [← eg] at hbT hF hgT
  clear hBa hS
  refine' reg_all hF ?_ mixed (by kernel_rfl) ?_
  rotate_left
  · repeat (first | exact Line.nil | ((refine' Line.cons rfl (.run rfl rfl ?_) ?_); (any_goals (first | exact cMove rfl rfl | exact OpOk.b (c := false) (cNeq rfl rfl rfl) rfl)); rotate_left))
  intro a w7 hF hb hN
  have hBs := hB.size
  replace hB := hB.trans (hb.mono hB.size)
  dsimp only [ext, Option.getD] at hF
  repeat with_reducible refine nThen ?_
  replace hbT := hbT.below hb
  replace hseg := hseg.below hb
  refine cond_f hF rfl ?_
  repeat with_reducible first | refine wp_seq ?_ | refine nThen ?_ | refine wp_skip ?_
  refine' reg_all hF ?_ mixed (by kernel_rfl) ?_
  rotate_left
  · repeat (first | exact Line.nil | ((refine' Line.cons rfl (.run rfl rfl ?_) ?_); (any_goals exact cAssign rfl rfl); rotate_left))
  intro a w8 hF hb hN
  have hBs := hB.size
  replace hB := hB.trans (hb.mono hB.size)
  dsimp only [ext, Option.getD] at hF
  repeat with_reducible first | refine nThen ?_ | refine wp_block ?_
  replace hbT := hbT.below hb
  replace hseg := hseg.below hb
  rw [hAl] at hseg
  refine wp_mono (Q := fun e a w' => e = .exit 0 ∧ ∃ s S, Fr 182 [(0, Ty.ex (.int .u64 (seed : Int))), (1, Ty.ex (.int .i64 n)), (3, Ty.ex v3), (4, Ty.ex v4), (11, Ty.ex (.pointer (some ⟨g11, 0, none⟩)))] a w' ∧ Below W.heap.size W w' ∧ Blk w' g11 27 #[.int .u64 (seed : Int), s] ∧ Seg w' 41 65 s N (flatC (tall seed A (lb.map fewS) (-1))) S ∧ ∀ y ∈ S, W.heap.size ≤ y) ?_ ?_
  · refine loop_ty (fun m a wr => ∃ (k : Nat) (s : Value) (S : List Nat), k + m = lb.length ∧ Fr 182 [(0, Ty.ex (.int .u64 (seed : Int))), (1, Ty.ex (.int .i64 n)), (3, Ty.ex v3), (4, Ty.ex v4), (11, Ty.ex (.pointer (some ⟨g11, 0, none⟩))), (13, Ty.ex (.int .i64 (k : Int)))] a wr ∧ Below W.heap.size W wr ∧ Blk wr g11 27 #[.int .u64 (seed : Int), s] ∧ Seg wr 41 65 s N (flatC (tall seed A ((lb.map fewS).take k) (-1))) S ∧ ∀ y ∈ S, W.heap.size ≤ y) lb.length ?_ ?_
    · exact ⟨0, s, S, by omega, hF.keep [0, 1, 3, 4, 11, 13], hB, hbT, hseg, hSW⟩
    clear hF hB hbT hseg hb hBs hSW
    rintro m a wr ⟨k, s, S, hk, hF, hB, hbT, hseg, hSW⟩
    have hvr := TB.below h3 hB
    repeat with_reducible refine wp_seq ?_
    refine' reg_all hF ?_ mixed (by kernel_rfl) ?_
    rotate_left
    · repeat (first | exact Line.nil | ((refine' Line.cons rfl (.run rfl rfl ?_) ?_); (any_goals (first | exact cMove rfl rfl | exact cLenH rfl (.l rfl hvr) (Ty.rd_isSl _ _) Tryz.underlying23 | exact cLss rfl rfl rfl)); rotate_left))
    intro a w9 hF hb hN
    have hBs := hB.size
    replace hB := hB.trans (hb.mono hB.size)
    dsimp only [ext, Option.getD] at hF
    repeat with_reducible refine nThen ?_
    replace hbT := hbT.below hb
    replace hseg := hseg.below hb
    replace hvr := TB.below hvr hb
    refine cond_ty hF rfl (fun hlt => ?_) (fun hge => ?_)
    rotate_left
    · have hge : ¬ k < lb.length := by have := of_decide_eq_false hge; omega
      obtain rfl : k = lb.length := by omega
      rw [List.take_of_length_le (by rw [List.length_map]; exact Nat.le_refl _)] at hseg
      repeat with_reducible first | refine wp_exit ?_ | refine xThen ?_
      exact ⟨rfl, s, S, hF.keep [0, 1, 3, 4, 11], hB, hbT, hseg, hSW⟩
    have hlt : k < lb.length := by have := of_decide_eq_true hlt; omega
    have hd1 := ivz_drop hlt
    have hnx := tall_next' seed A lb hlt (-1)
    have hTl : (tall seed A ((lb.map fewS).take k) (-1)).length = N := by rw [tall_len]; exact hAl
    generalize tall seed A ((lb.map fewS).take k) (-1) = T at *
    obtain ⟨z, hz⟩ : ∃ z, z = lb.getD k 0 := ⟨_, rfl⟩
    rw [← hz] at hd1 hnx
    have hO := sumOf1_ty (e := 39) (τ := Ty.sl 5 2 ((fewB z).map bv)) (fewB z) (reads_sl _ _ _) (fewB_lt z) (by simp [fewB])
    have hY : shaL (fewB z) = (fewS z).l := rfl
    rw [hY] at hO
    generalize fewS z = Y at *
    have hTk := ttake_ty seed T Y (by omega) hsd
    have hat := tblk_at hbT
    have htb : (Ty.tab 41 seed T).p w9 (.agg #[.int .u64 (seed : Int), s]) := ⟨s, rfl, by rw [hTl]; exact hseg.sl⟩
    repeat with_reducible first | refine wp_seq ?_ | refine nThen ?_ | refine wp_skip ?_ | refine wp_block ?_
    refine' region_ty 16 mixed (by kernel_rfl) hF ?_ ?_
    rotate_left
    · simp only [List.take_succ_cons, List.take_zero]
      repeat (first | exact Line.nil | ((refine' Line.cons rfl (.run rfl rfl ?_) ?_); (any_goals (first | exact cMove rfl rfl | exact cLoadT46 rfl (.l rfl hat) | exact cIndexR (k := k) (sz := 1) rfl (.l rfl hvr) rfl Tryz.underlying23 sizeI hlt (by rw [List.length_map]; omega) | exact cLoad1 (u := ivz z) rfl (Has.c (.t rfl) (fun W v h => by rw [Nat.mul_one, hd1] at h; exact h)) (pts_atR _) Tryz.underlying3 rfl | exact cConvR (n := z) (r := (((z % 256).toNat : Nat) : Int)) rfl rfl Tryz.underlying3 Tryz.underlying5 (u8_wrap z) | exact cShr (r := z / 256) rfl rfl rfl n8i (shr8z z) | exact cConvR (n := z / 256) (r := (((z / 256 % 256).toNat : Nat) : Int)) rfl rfl Tryz.underlying3 Tryz.underlying5 (u8_wrap _) | exact cBuildV (vs := [bv (z % 256).toNat, bv (z / 256 % 256).toNat]) rfl (parts2v rfl rfl rfl) Tryz.underlying39 infoU8 rfl (by simp [Value.cells, bv]) (by decide) (by simp [maxLen]) | exact cBuildT (τs := [Ty.sl 5 2 ((fewB z).map bv)]) rfl (partsT1 rfl (.t rfl) (Ty.sl_isSl _ _ _)) Tryz.underlying70 infoB rfl | exact cCall1 rfl rfl hO | exact cCallR2 rfl (.l rfl htb) (.t rfl) hTk (tabO_olds _ _ _))); rotate_left))
    intro a w10 hF hb hN
    have hBs := hB.size
    replace hB := hB.trans (hb.mono hB.size)
    simp only [List.take_succ_cons, List.take_zero, List.drop_succ_cons, List.drop_zero] at hF hN ⊢
    dsimp only [ext, Option.getD] at hF
    replace hbT := hbT.below hb
    have hw9 : W.heap.size ≤ w9.heap.size := by have := hbT.lt; omega
    obtain ⟨zz, ⟨s', rfl, S', hsg, hS'⟩, hF⟩ := hF.open (s := 78) rfl
    refine tlStoreV (Δ := [(0, Ty.ex (.int .u64 (seed : Int))), (1, Ty.ex (.int .i64 n)), (3, Ty.ex v3), (4, Ty.ex v4), (11, Ty.ex (.pointer (some ⟨g11, 0, none⟩))), (13, Ty.ex (.int .i64 (k : Int)))]) hF rfl rfl rfl rfl (hF.getEx (s := 78) rfl) hbT rfl sizeT46 (sl_one hsg.sl _) (hF.keep [0, 1, 3, 4, 11, 13]) rfl ?_
    intro w11 hF hbT' hkx
    refine wpList_nil ?_
    replace hsg := hsg.keeps hkx (seg_far hsg hbT (by decide))
    replace hB := below_own hB hkx (by intro y hy; simp only [List.mem_singleton] at hy; omega)
    replace hbT : Blk w11 g11 27 #[.int .u64 (seed : Int), s'] := hbT'
    rw [← hnx] at hsg
    have hlN : (tall seed A ((lb.map fewS).take (k + 1)) (-1)).length = N := by rw [tall_len]; exact hAl
    rw [hlN] at hsg
    repeat with_reducible first | refine nThen ?_ | refine nBlk ?_
    refine' reg_all hF ?_ mixed (by kernel_rfl) ?_
    rotate_left
    · repeat (first | exact Line.nil | ((refine' Line.cons rfl (.run rfl rfl ?_) ?_); (any_goals (first | exact cMove rfl rfl | exact cAssign rfl rfl | exact cAdd (r := ((k + 1 : Nat) : Int)) rfl rfl rfl (by omega))); rotate_left))
    intro a w12 hF hb hN
    have hBs := hB.size
    replace hB := hB.trans (hb.mono hB.size)
    dsimp only [ext, Option.getD] at hF
    repeat with_reducible refine nThen ?_
    exact ⟨m - 1, by omega, k + 1, s', S', by omega, hF.keep [0, 1, 3, 4, 11, 13], hB, hbT.below hb, hsg.below hb, fun y hy => Nat.le_trans hw9 (hS' y hy)⟩
  clear hF hB hbT hseg hb hBs hSW
  rintro e a wr ⟨rfl, s, S, hF, hB, hbT, hseg, hSW⟩
  have hTl : (tall seed A (lb.map fewS) (-1)).length = N := by rw [tall_len]; exact hAl
  generalize tall seed A (lb.map fewS) (-1) = T at *
  have hat := tblk_at hbT
  have hsl := hseg.sl
  repeat with_reducible first | refine wp_seq ?_ | refine nThen ?_ | refine xHere ?_
  refine' reg_all hF ?_ mixed (by kernel_rfl) ?_
  rotate_left
  · repeat (first | exact Line.nil | ((refine' Line.cons rfl (.run rfl rfl ?_) ?_); (any_goals (first | exact cMove rfl rfl | exact cFldL46 rfl (.l rfl hat) | exact cRowOf46 rfl (.t rfl) | exact cLenH rfl (.l rfl hsl) (Ty.sl_isSl _ _ _) Tryz.underlying24 | exact OpOk.b (c := false) (cNeq rfl rfl rfl) (by rw [decide_eq_true (by omega)]; rfl))); rotate_left))
  intro a w13 hF hb hN
  have hBs := hB.size
  replace hB := hB.trans (hb.mono hB.size)
  dsimp only [ext, Option.getD] at hF
  repeat with_reducible refine nThen ?_
  replace hbT := hbT.below hb
  replace hseg := hseg.below hb
  refine cond_f hF rfl ?_
  repeat with_reducible first | refine wp_seq ?_ | refine nThen ?_ | refine wp_skip ?_
  refine' reg_all hF ?_ mixed (by kernel_rfl) ?_
  rotate_left
  · repeat (first | exact Line.nil | ((refine' Line.cons rfl (.run rfl rfl ?_) ?_); (any_goals exact cAssign rfl rfl); rotate_left))
  intro a w14 hF hb hN
  have hBs := hB.size
  replace hB := hB.trans (hb.mono hB.size)
  dsimp only [ext, Option.getD] at hF
  repeat with_reducible first | refine nThen ?_ | refine wp_block ?_
  replace hbT := hbT.below hb
  replace hseg := hseg.below hb
  clear hat hsl
  refine wp_mono (Q := fun e a w' => e = .exit 2 ∧ ∃ i : Nat, Fr 182 [(3, Ty.ex v3), (11, Ty.ex (.pointer (some ⟨g11, 0, none⟩)))] a w' ∧ Below W.heap.size W w' ∧ Blk w' g11 27 #[.int .u64 (seed : Int), s] ∧ Seg w' 41 65 s N (flatC (mixC R T i)) S) ?_ ?_
  · refine loop_ty (fun m a wr => ∃ i : Nat, i + m = R.length ∧ Fr 182 [(1, Ty.ex (.int .i64 n)), (3, Ty.ex v3), (4, Ty.ex v4), (11, Ty.ex (.pointer (some ⟨g11, 0, none⟩))), (14, Ty.ex (.int .i64 (i : Int)))] a wr ∧ Below W.heap.size W wr ∧ Blk wr g11 27 #[.int .u64 (seed : Int), s] ∧ Seg wr 41 65 s N (flatC (mixC R T i)) S) R.length ?_ ?_
    · exact ⟨0, by omega, hF.keep [1, 3, 4, 11, 14], hB, hbT, hseg⟩
    clear hF hB hbT hseg hb hBs
    rintro m a wr ⟨i, hi, hF, hB, hbT, hseg⟩
    have hml := mixC_len R T i
    have k4 := TR.below h4 hB
    repeat with_reducible refine wp_seq ?_
    by_cases hlt : i < R.length
    rotate_left
    · obtain rfl : i = R.length := by omega
      refine' reg_all hF ?_ mixed (by kernel_rfl) ?_
      rotate_left
      · repeat (first | exact Line.nil | (refine' Line.cons rfl (.no rfl rfl rfl rfl rfl rfl) ?_; rotate_left) | ((refine' Line.cons rfl (.run rfl rfl ?_) ?_); (any_goals (first | exact cMove rfl rfl | exact cLenH rfl (.l rfl k4) (Ty.rd_isSl _ _) Tryz.underlying24 | exact OpOk.b (c := false) (cLss rfl rfl rfl) (decide_eq_false (by omega)) | exact cPickF rfl rfl rfl)); rotate_left))
      intro a w15 hF hb hN
      have hBs := hB.size
      replace hB := hB.trans (hb.mono hB.size)
      dsimp only [ext, Option.getD] at hF
      repeat with_reducible refine nThen ?_
      refine cond_f hF rfl ?_
      repeat with_reducible first | refine wp_exit ?_ | refine xThen ?_
      exact ⟨rfl, R.length, hF.keep [3, 11], hB, hbT.below hb, hseg.below hb⟩
    by_cases hlt2 : i < N
    rotate_left
    · refine' reg_all hF ?_ mixed (by kernel_rfl) ?_
      rotate_left
      · repeat (first | exact Line.nil | ((first | refine' Line.cons rfl (.run rfl rfl ?_) ?_ | refine' Line.cons rfl (.yes rfl rfl rfl rfl ?_) ?_); (any_goals (first | exact cMove rfl rfl | exact cLenH rfl (.l rfl k4) (Ty.rd_isSl _ _) Tryz.underlying24 | exact OpOk.b (c := true) (cLss rfl rfl rfl) (decide_eq_true (by omega)) | exact OpOk.b (c := false) (cLss rfl rfl rfl) (decide_eq_false (by omega)) | exact cPickT rfl rfl rfl)); rotate_left))
      intro a w15 hF hb hN
      have hBs := hB.size
      replace hB := hB.trans (hb.mono hB.size)
      dsimp only [ext, Option.getD] at hF
      repeat with_reducible refine nThen ?_
      refine cond_f hF rfl ?_
      repeat with_reducible first | refine wp_exit ?_ | refine xThen ?_
      exact ⟨rfl, i, hF.keep [3, 11], hB, hbT.below hb, hseg.below hb⟩
    refine' reg_all hF ?_ mixed (by kernel_rfl) ?_
    rotate_left
    · repeat (first | exact Line.nil | ((first | refine' Line.cons rfl (.run rfl rfl ?_) ?_ | refine' Line.cons rfl (.yes rfl rfl rfl rfl ?_) ?_); (any_goals (first | exact cMove rfl rfl | exact cLenH rfl (.l rfl k4) (Ty.rd_isSl _ _) Tryz.underlying24 | exact OpOk.b (c := true) (cLss rfl rfl rfl) (decide_eq_true (by omega)) | exact cPickT rfl rfl rfl)); rotate_left))
    intro a w15 hF hb hN
    have hBs := hB.size
    replace hB := hB.trans (hb.mono hB.size)
    dsimp only [ext, Option.getD] at hF
    repeat with_reducible refine nThen ?_
    replace hbT := hbT.below hb
    replace hseg := hseg.below hb
    replace k4 := TR.below k4 hb
    refine cond_t hF rfl ?_
    repeat with_reducible first | refine wp_seq ?_ | refine nThen ?_ | refine wp_skip ?_ | refine wp_block ?_
    have hd := flatC_at R hlt
    have hd' : (flatC R).drop (i * 65) = .int .i64 (R.getD i default).n :: ((R.getD i default).key.enc ++ (R.getD i default).check.enc ++ flatC (R.drop (i + 1))) := by rw [hd]; rfl
    obtain ⟨c, hc⟩ : ∃ c, c = R.getD i default := ⟨_, rfl⟩
    rw [← hc] at hd hd'
    refine' reg_all hF ?_ mixed (by kernel_rfl) ?_
    rotate_left
    · repeat (first | exact Line.nil | ((refine' Line.cons rfl (.run rfl rfl ?_) ?_); (any_goals (first | exact cMove rfl rfl | exact cIndexR (k := i) (sz := 65) rfl (.l rfl k4) rfl Tryz.underlying24 info34 hlt (by rw [flatC_len]; omega) | exact cFieldR0 rfl (.t rfl) Tryz.underlying41 rfl size_i64 | exact cLoad1 (u := .int .i64 c.n) rfl (Has.c (.t rfl) (fun W v h => by rw [hd'] at h; exact h)) (pts_atR _) Tryz.underlying2 rfl | exact cNeq rfl rfl rfl)); rotate_left))
    intro a w16 hF hb hN
    have hBs := hB.size
    replace hB := hB.trans (hb.mono hB.size)
    dsimp only [ext, Option.getD] at hF
    repeat with_reducible refine nThen ?_
    replace hbT := hbT.below hb
    replace hseg := hseg.below hb
    replace k4 := TR.below k4 hb
    refine cond_ty hF rfl (fun hnz => ?_) (fun hz => ?_)
    rotate_left
    · have hz : c.n = 0 := by simpa using hz
      have em : mixC R T (i + 1) = mixC R T i := by show (if (R.getD i default).n = 0 then _ else _) = _; rw [← hc, if_pos hz]
      repeat with_reducible first | refine nThen ?_ | refine nBlk ?_ | refine wp_skip ?_
      refine' reg_all hF ?_ mixed (by kernel_rfl) ?_
      rotate_left
      · repeat (first | exact Line.nil | ((refine' Line.cons rfl (.run rfl rfl ?_) ?_); (any_goals (first | exact cMove rfl rfl | exact cAssign rfl rfl | exact cAdd (r := ((i + 1 : Nat) : Int)) rfl rfl rfl (by omega))); rotate_left))
      intro a w17 hF hb hN
      have hBs := hB.size
      replace hB := hB.trans (hb.mono hB.size)
      dsimp only [ext, Option.getD] at hF
      repeat with_reducible refine nThen ?_
      exact ⟨m - 1, by omega, i + 1, by omega, hF.keep [1, 3, 4, 11, 14], hB, hbT.below hb, by rw [em]; exact hseg.below hb⟩
    have hnz : ¬ c.n = 0 := by simpa using hnz
    have em : mixC R T (i + 1) = (mixC R T i).set i c := by show (if (R.getD i default).n = 0 then _ else _) = _; rw [← hc, if_neg hnz]
    generalize mixC R T i = Z at *
    obtain ⟨g, off, cap, eu, eS, hsl⟩ : ∃ g off cap, s = .slice (some ⟨g, off, none⟩) N cap ∧ S = [g] ∧ SegL w16 41 65 g off N cap (flatC Z) := by
      rcases hseg.cases with ⟨_, h0, _⟩ | h
      · omega
      · exact h
    have hat := tblk_at hbT
    rw [eu] at hat
    refine' region_ty 8 mixed (by kernel_rfl) hF ?_ ?_
    rotate_left
    · simp only [List.take_succ_cons, List.take_zero]
      repeat (first | exact Line.nil | ((refine' Line.cons rfl (.run rfl rfl ?_) ?_); (any_goals (first | exact cMove rfl rfl | exact cFldL46 rfl (.l rfl hat) | exact cRowOf46 rfl (.t rfl) | exact cIndexR (k := i) (sz := 65) rfl (.l rfl k4) rfl Tryz.underlying24 info34 hlt (by rw [flatC_len]; omega) | exact cLoadClR rfl (Has.c (.t rfl) (fun W v h => by rw [hd] at h; exact h)) | exact cIndexEx (k := i) (sz := 65) rfl rfl rfl Tryz.underlying24 info34 hlt2)); rotate_left))
    intro a w17 hF hb hN
    have hBs := hB.size
    replace hB := hB.trans (hb.mono hB.size)
    simp only [List.take_succ_cons, List.take_zero, List.drop_succ_cons, List.drop_zero] at hF hN ⊢
    dsimp only [ext, Option.getD] at hF
    replace hbT := hbT.below hb
    replace hsl := hsl.below hb
    refine tlStoreAt (Δ := [(1, Ty.ex (.int .i64 n)), (3, Ty.ex v3), (4, Ty.ex v4), (11, Ty.ex (.pointer (some ⟨g11, 0, none⟩))), (14, Ty.ex (.int .i64 (i : Int)))]) (k := i * 65) hF rfl rfl rfl rfl rfl hsl (by rw [Cl.size]; omega) (by rw [Cl.size]; exact info34) (Cl.one _) (hF.keep [1, 3, 4, 11, 14]) rfl ?_
    intro w18 hF hsl' hk18
    refine wpList_nil ?_
    have hgS : ∀ y ∈ [g], W.heap.size ≤ y := by rw [← eS]; exact hSW
    replace hB := below_own hB hk18 hgS
    replace hbT := hbT.keeps hk18 (by simpa using segl_far hsl hbT (by decide))
    rw [show c.a.toList = c.enc from rfl, over_flatC _ _ (by omega), ← em] at hsl'
    have hseg := hsl'.seg
    rw [← eu, ← eS] at hseg
    repeat with_reducible first | refine nThen ?_ | refine nBlk ?_
    refine' reg_all hF ?_ mixed (by kernel_rfl) ?_
    rotate_left
    · repeat (first | exact Line.nil | ((refine' Line.cons rfl (.run rfl rfl ?_) ?_); (any_goals (first | exact cMove rfl rfl | exact cAssign rfl rfl | exact cAdd (r := ((i + 1 : Nat) : Int)) rfl rfl rfl (by omega))); rotate_left))
    intro a w19 hF hb hN
    have hBs := hB.size
    replace hB := hB.trans (hb.mono hB.size)
    dsimp only [ext, Option.getD] at hF
    repeat with_reducible refine nThen ?_
    exact ⟨m - 1, by omega, i + 1, by omega, hF.keep [1, 3, 4, 11, 14], hB, hbT.below hb, hseg.below hb⟩
  clear hF hB hbT hseg hb hBs
  rintro e a wr ⟨rfl, i, hF, hB, hbT, hseg⟩
  have hZl := (mixC_len R T i).trans hTl
  generalize mixC R T i = Z at *
  rw [← hZl] at hseg
  have hsl : (Ty.cls 41 Z).p wr s := hseg.sl
  have tO := tableOf16_ty seed Z (by omega)
  have hA := pall_ty seed Z hsd
  have hR := rpeel_ty seed Z hsd
  have hO := own_ty seed Z M (by omega) hsd
  have hQ := rown_ty seed Z M (by omega) hsd
  have lP := resP_len (seed := seed) (L := Z)
  have lM := resM_len (seed := seed) (L := Z)
  have lL : (resL seed Z).length ≤ 1000000 := by
    unfold resL
    split
    · rw [show (peelS seed Z).L.length = Z.length from Pst.run_len _ _ _]; omega
    · simp
  have lP2 : (ownP seed Z M).length ≤ 1025 := by
    unfold ownP
    split
    · exact resP_len
    · simp
  have lQ2 : (ownQ seed Z M).length ≤ 1025 := by
    unfold ownQ
    split
    · exact resM_len
    · simp
  generalize resP seed Z = P at *
  generalize resM seed Z = K at *
  generalize resN seed Z = en at *
  generalize resS seed Z = sd at *
  generalize resL seed Z = RL at *
  generalize ownP seed Z M = P2 at *
  generalize ownQ seed Z M = Q2 at *
  generalize ownN seed Z M = en2 at *
  have tL := tableOf16_ty sd RL lL
  have sL := sameT16_ty sd sd RL RL lL
  rw [decide_eq_true rfl, decide_eq_true rfl] at sL
  have wP := own16_seg P (by omega)
  have wK := own16_seg K (by omega)
  have wP2 := own16_seg P2 (by omega)
  have wQ2 := own16_seg Q2 (by omega)
  have wM := own16_seg M (by omega)
  have rP := r10same_ty P P (by omega)
  have rK := r10same_ty K K (by omega)
  have rP2 := r10same_ty P2 P2 (by omega)
  have rQ2 := r10same_ty Q2 Q2 (by omega)
  rw [decide_eq_true rfl] at rP rK rP2 rQ2
  have hB19 := hB
  have hw19 := hB.size
  replace hB := Below.refl wr.heap.size wr
  repeat with_reducible first | refine wp_seq ?_ | refine nThen ?_ | refine xHere ?_
  refine wp_region_lit ?_
  refine' tlOp hF rfl rfl rfl ?_ ?_
  rotate_left
  · exact cLoadT46 rfl (.l rfl (tblk_at (hbT.below hB)))
  intro a w20 hF hb
  have hBs := hB.size
  replace hB := hB.trans (hb.mono hB.size)
  try (refine wpList_nil ?_)
  refine' tlOp hF rfl rfl rfl ?_ ?_
  rotate_left
  · exact cCallR1 rfl (Has.l (τ := Ty.tab 41 seed Z) rfl ⟨s, rfl, (Ty.cls 41 Z).below hsl hB⟩) tO (tabO_olds _ _ _)
  intro a w21 hF hb
  have hBs := hB.size
  replace hB := hB.trans (hb.mono hB.size)
  try (refine wpList_nil ?_)
  refine tlNewTab hF rfl rfl rfl (by decide) rfl (run_alloc_i infoT83) rfl rfl rfl rfl tabO_tab sizeT83 fun a w22 hF hb => ?_
  replace hB := hB.trans (hb.mono hB.size)
  refine wpList_nil ?_
  repeat with_reducible first | refine wp_seq ?_ | refine nThen ?_
  refine wp_region_lit ?_
  refine' tlOp hF rfl rfl rfl ?_ ?_
  rotate_left
  · exact cLoadT46 rfl (.l rfl (tblk_at (hbT.below hB)))
  intro a w23_0 hF hb
  replace hB := hB.trans (hb.mono hB.size)
  refine' tlOp hF rfl rfl rfl ?_ ?_
  rotate_left
  · exact cCallH1 rfl (Has.l (τ := Ty.tab 41 seed Z) rfl ⟨s, rfl, (Ty.cls 41 Z).below hsl hB⟩) hA
  intro a w23_1 hF hb
  replace hB := hB.trans (hb.mono hB.size)
  refine' tlOp hF rfl rfl rfl ?_ ?_
  rotate_left
  · exact cMove rfl rfl
  intro a w23_2 hF hb
  replace hB := hB.trans (hb.mono hB.size)
  refine' tlOp hF rfl rfl rfl ?_ ?_
  rotate_left
  · exact cExtract rfl rfl rfl
  intro a w23_t hF hb
  replace hB := hB.trans (hb.mono hB.size)
  refine' tlOp hF rfl rfl rfl ?_ ?_
  rotate_left
  · exact cExtract rfl rfl rfl
  intro a w23_e hF hb
  replace hB := hB.trans (hb.mono hB.size)
  refine tlNewRes hF rfl rfl rfl (by decide) rfl rfl rfl rfl rfl fun a w23_n hF hb => ?_
  replace hB := hB.trans (hb.mono hB.size)
  refine' tlOp hF rfl rfl rfl ?_ ?_
  rotate_left
  · exact cAssign rfl rfl
  intro a w23 hF hb
  replace hB := hB.trans (hb.mono hB.size)
  try (refine wpList_nil ?_)
  repeat with_reducible first | refine wp_seq ?_ | refine nThen ?_
  refine wp_region_lit ?_
  refine' tlOp hF rfl rfl rfl ?_ ?_
  rotate_left
  · exact cLoadTab83 rfl (.t rfl)
  intro a w24_0 hF hb
  replace hB := hB.trans (hb.mono hB.size)
  refine' tlOp hF rfl rfl rfl ?_ ?_
  rotate_left
  · exact cCall1 rfl rfl hR
  intro a w24_1 hF hb
  replace hB := hB.trans (hb.mono hB.size)
  refine' tlOp hF rfl rfl rfl ?_ ?_
  rotate_left
  · exact cMove rfl rfl
  intro a w24_2 hF hb
  replace hB := hB.trans (hb.mono hB.size)
  refine' tlOp hF rfl rfl rfl ?_ ?_
  rotate_left
  · exact cExtract rfl rfl rfl
  intro a w24_t hF hb
  replace hB := hB.trans (hb.mono hB.size)
  refine' tlOp hF rfl rfl rfl ?_ ?_
  rotate_left
  · exact cExtract rfl rfl rfl
  intro a w24_e hF hb
  replace hB := hB.trans (hb.mono hB.size)
  refine tlNewResR hF rfl rfl rfl (by decide) rfl rfl rfl rfl rfl fun a w24_n hF hb => ?_
  replace hB := hB.trans (hb.mono hB.size)
  refine' tlOp hF rfl rfl rfl ?_ ?_
  rotate_left
  · exact cAssign rfl rfl
  intro a w24 hF hb
  replace hB := hB.trans (hb.mono hB.size)
  try (refine wpList_nil ?_)
  repeat with_reducible first | refine wp_seq ?_ | refine nThen ?_
  have k3 := TB.below h3 (hB19.trans (hB.mono hw19))
  have hat := tblk_at (hbT.below hB)
  have htb : (Ty.tab 41 seed Z).p w24 (.agg #[.int .u64 (seed : Int), s]) := ⟨s, rfl, (Ty.cls 41 Z).below hsl hB⟩
  refine' reg_all hF ?_ mixed (by kernel_rfl) ?_
  rotate_left
  · repeat (first | exact Line.nil | ((refine' Line.cons rfl (.run rfl rfl ?_) ?_); (any_goals (first | exact cMove rfl rfl | exact cAssign rfl rfl | exact cLoadT46 rfl (.l rfl hat) | exact cCallS1 rfl (.l rfl k3) f2 | exact cCallH2 rfl (.l rfl htb) (Has.c (.t rfl) seg_sl) hO | exact cExtract rfl rfl rfl)); rotate_left))
  intro a w25 hF hb hN
  have hBs := hB.size
  replace hB := hB.trans (hb.mono hB.size)
  dsimp only [ext, Option.getD] at hF
  repeat with_reducible first | refine wp_seq ?_ | refine nThen ?_
  replace k3 := TB.below k3 hb
  refine' reg_all hF ?_ mixed (by kernel_rfl) ?_
  rotate_left
  · repeat (first | exact Line.nil | ((refine' Line.cons rfl (.run rfl rfl ?_) ?_); (any_goals (first | exact cMove rfl rfl | exact cAssign rfl rfl | exact cLoadTab83 rfl (.t rfl) | exact cCallS1 rfl (.l rfl k3) f2 | exact cCallS1 rfl (Has.c (.t rfl) seg_sl) wM | exact cCallH2 rfl (.t rfl) (Has.c (.t rfl) seg_sl) hQ | exact cExtract rfl rfl rfl)); rotate_left))
  intro a w26 hF hb hN
  have hBs := hB.size
  replace hB := hB.trans (hb.mono hB.size)
  dsimp only [ext, Option.getD] at hF
  repeat with_reducible first | refine wp_seq ?_ | refine nThen ?_
  refine' reg_all hF ?_ mixed (by kernel_rfl) ?_
  rotate_left
  · repeat (first | exact Line.nil | ((first | refine' Line.cons rfl (.run rfl rfl ?_) ?_ | refine' Line.cons rfl (.yes rfl rfl rfl rfl ?_) ?_); (any_goals (first | exact cMove rfl rfl | exact cAssign rfl rfl | exact OpOk.b (c := true) (cEql rfl rfl rfl) (decide_eq_true rfl) | exact cSelP rfl (.t rfl) | exact cSelM rfl (.t rfl) | exact cSelL rfl (.t rfl) | exact cSelPR rfl (.t rfl) | exact cSelMR rfl (.t rfl) | exact cSelLR rfl (.t rfl) | exact cLoadSel rfl rfl | exact cLoadSelR rfl rfl | exact cLoadTabR rfl rfl | exact cLoadTabRR rfl rfl | exact cCallS1 rfl (.t rfl) wP | exact cCallS1 rfl (.t rfl) wK | exact cCallS1 rfl (.t rfl) wP2 | exact cCallS1 rfl (.t rfl) wQ2 | exact cCallH2 rfl (Has.c (.t rfl) seg_sl) (.t rfl) rP | exact cCallH2 rfl (Has.c (.t rfl) seg_sl) (.t rfl) rK | exact cCallH2 rfl (Has.c (.t rfl) seg_sl) (.t rfl) rP2 | exact cCallH2 rfl (Has.c (.t rfl) seg_sl) (.t rfl) rQ2 | exact cCallR1 rfl (.t rfl) tL (tabO_olds _ _ _) | exact cCallH2 rfl (Has.c (.t rfl) tabO_tab) (.t rfl) sL | exact cPickT rfl rfl rfl)); rotate_left))
  intro a w27 hF hb hN
  have hBs := hB.size
  replace hB := hB.trans (hb.mono hB.size)
  dsimp only [ext, Option.getD] at hF
  repeat with_reducible first | refine nThen ?_ | refine wp_ret ?_
  refine ret1 hF rfl rfl fun z hz => ?_
  exact ⟨by rw [show z = .bool true from hz], hB19.trans (hB.mono hw19)⟩
end Go.Proofs.YtmlbkcpmgcjblaaGreat
