/- Joined: TabH, PlaceI, PlaceJ, PlaceK, TabI, TabJ, TabK, TabL, SetH, SetI, SetJ, SetK, TabM, PeelP, PeelM, PeelN, PeelA, TabN, PeelB, PeelC, PeelQ, TabR, PeelR, PeelS, PeelD. -/
import Derived.Maps.Own
import Derived.Maps.Views
import Derived.DeepKeys4
import Derived.Test.YtmlbkcpmgcjblaaGreatZPeelSays3
/- The laws' helpers of layers 15 to 18 by types: cellOf, tableOf, sameT, few. -/
namespace Go.Proofs.YtmlbkcpmgcjblaaGreat
open Go.RowKit

/-- A value of one cell is stored into a field of a variable of the call's own. -/
theorem tlStoreF {P : Program} {ops : Array Oper} {Q : Exit → Act → World → Prop} {rest : List Oper} {o : Oper} {a : Act} {w : World} {N : Nat} {Γ : Ctx} {ty t : TypeId} {p : Nat} {y : Operand} {g k : Nat} {cs : Array Value} {v : Value} {Δ : Ctx} (hF : Fr N Γ a w) (hg : o.guard = none) (hd : o.dst = none) (ho : o.op = .store ty (.tmp p) y) (hp : look Γ p = some (Ty.ex (.pointer (some ⟨g, k, none⟩)))) (hy : a.eval y = v)
    (hB : Blk w g t cs) (hk : k + v.cells.size ≤ cs.size) (hi : (P.info? ty).map (·.size) = some v.cells.size) (h1 : v.cells.all (·.oneCell') = true) (hΔ : Fr N Δ a w) (hfree : Δ.free t = true)
    (hq : ∀ w', Fr N Δ a w' → Blk w' g t (splice cs k v.cells.toList) → Keeps [g] w w' → wpList P ops Q rest a w') : wpList P ops Q (o :: rest) a w := by
  refine wpList_plain hg fun K hK => ?_
  unfold Oper.wp execOp
  simp only [ho, hF.getEx hp, hy, Instr.storeAt, Instr.sureAddr, Sem.run_bind, Sem.run_pure, Result.andThen_ok, storeVar_cells ty _ v, run_storeVar_mid w g k ty v.cells (hB.there hk) hi h1]
  have h2 := hB.setCells v.cells.toList k
  have h3 : Keeps [g] w (w.setCells g k v.cells.toList) := Keeps.setCells (.inl (by simp)) _ _ (Keeps.refl _ _)
  refine hK _ _ ?_
  rw [hd]
  refine hq _ (hΔ.free h3 (fun b hb _ => ?_) hfree) h2 h3
  simp only [List.mem_singleton] at hb
  subst hb
  exact ⟨cs, (0, 0), hB⟩
theorem sl_cells {v : Value} (h : ∃ A l c, v = .slice A l c) : v.cells = #[v] := by
  obtain ⟨A, l, c, rfl⟩ := h
  rfl
theorem sl_one1 {v : Value} (h : ∃ A l c, v = .slice A l c) : v.cells.all (·.oneCell') = true := by
  obtain ⟨A, l, c, rfl⟩ := h
  simp [Value.cells, Value.oneCell']
theorem splice2 (a b v : Value) (h : v.cells = #[v]) : splice #[a, b] 1 v.cells.toList = #[a, v] := by rw [h]; rfl
theorem seg_isA {w : World} {e : TypeId} {sz n : Nat} {v : Value} {xs : List Value} {S : List Nat} (h : Seg w e sz v n xs S) : ∃ A l c, v = .slice A l c := by
  obtain ⟨A, c, h1, _⟩ := h.form
  exact ⟨A, n, c, h1⟩
theorem cBuildC1 {P : Program} {w0 : World} {Γ : Ctx} {o : Oper} {t : TypeId} {x : Operand} {v z : Value} (ho : o.op = .build t #[(0, x)]) (hx : OpT Γ x (Ty.ex v)) (hr : ∀ w : World, (Instr.build t #[(0, v)]).run P w = .ok z w) : OpOk P w0 Γ o (Ty.ex z) :=
  cBuildP (vs := #[(0, v)]) ho (fun a w hs => by
    obtain ⟨v', h1, h2⟩ := hs x _ (by simp [ho, Op.operands]) hx
    have h2 : v' = v := h2
    simp [h1, h2]) hr
set_option maxRecDepth 100000 in
theorem cellOf16_ty (c : Cl) : Fn1 Tryz.prog 27 (Ty.ex (.agg c.a)) (Ty.ex (.agg c.a)) := by
  refine ⟨fun args w => by kernel_rfl, fun w v hv => ?_⟩
  refine enter_ty 10 [Ty.ex (.agg c.a)] Tryz.func27 rfl (by kernel_rfl) ⟨hv, trivial⟩ fun a hF => ?_
  have hB := Below.refl w.heap.size w
  repeat with_reducible refine wp_seq ?_
  refine' reg_all hF ?_ mixed (by kernel_rfl) ?_
  rotate_left
  · repeat (first
        | exact Line.nil
        | (refine' Line.cons rfl (.new rfl rfl (run_alloc_i infoC49) rfl) ?_; rotate_left)
        | ((refine' Line.cons rfl (.run rfl rfl ?_) ?_)
           any_goals exact cBoxCl rfl rfl
           rotate_left))
  intro a w1 hF hb hN
  have hBs := hB.size
  replace hB := hB.trans (hb.mono hB.size)
  dsimp only [ext, Option.getD] at hF
  repeat with_reducible first | refine wp_seq ?_ | refine nThen ?_
  obtain ⟨z, ⟨gx, rfl, hgx, hbx⟩, hF⟩ := hF.open (s := 2) rfl
  refine' region_ty 7 mixed (by kernel_rfl) hF ?_ ?_
  rotate_left
  · simp only [List.take_succ_cons, List.take_zero]
    repeat (first | exact Line.nil | ((refine' Line.cons rfl (.run rfl rfl ?_) ?_); (any_goals (first | exact cFldN34 rfl (.t rfl) | exact cFldK34 rfl (.t rfl) | exact cFldC34 rfl (.t rfl) | exact cLoadN rfl (.t rfl) | exact cLoadSum rfl (.t rfl) Tryz.underlying36 sizeS | exact cBuild3 rfl rfl rfl rfl (fun w => buildC49 _ _ _ w))); rotate_left))
  intro a w2 hF hb hN
  have hBs := hB.size
  replace hB := hB.trans (hb.mono hB.size)
  simp only [List.take_succ_cons, List.take_zero, List.drop_succ_cons, List.drop_zero] at hF hN ⊢
  dsimp only [ext, Option.getD] at hF
  replace hbx := hbx.below hb
  refine tlStoreV (Δ := [(2, Ty.ex (.pointer (some ⟨_, 0, none⟩)))]) hF rfl rfl rfl rfl (hF.getEx (s := 9) rfl) hbx (clSz _ _) ((by show _ = some (Cl.a _).size; rw [Cl.size]; exact info49)) (Cl.one _) (hF.keep [2]) rfl ?_
  intro w3 hF hbx hkx
  refine wpList_nil ?_
  replace hB := below_own hB hkx (by intro y hy; simp only [List.mem_singleton] at hy; omega)
  repeat with_reducible first | refine nThen ?_ | refine wp_ret ?_
  refine retCell hF rfl rfl hbx (Tryz.underlying79) rfl ((by show _ = some (Cl.a _).size; rw [Cl.size]; exact info49)) ?_
  exact ⟨_, rfl, rfl, hB⟩
set_option maxRecDepth 100000 in
set_option maxHeartbeats 2000000 in
theorem tableOf16_ty (seed : Nat) (L : List Cl) (hL : L.length ≤ 1000000) : FnR1 Tryz.prog 9 (Ty.tab 41 seed L) (fun w => Ty.tabO w 79 seed L) := by
  refine ⟨fun args w => by kernel_rfl, fun w v ⟨s, hv, hs⟩ => ?_⟩
  subst hv
  let TL := Ty.cls 41 L
  refine enter_ty 27 [Ty.ex (.agg #[.int .u64 (seed : Int), s])] Tryz.func9 rfl (by kernel_rfl) ⟨rfl, trivial⟩ fun a hF => ?_
  have hB := Below.refl w.heap.size w
  repeat with_reducible refine wp_seq ?_
  refine' reg_all hF ?_ mixed (by kernel_rfl) ?_
  rotate_left
  · repeat (first
        | exact Line.nil
        | (refine' Line.cons rfl (.new rfl rfl (run_alloc_i infoT83) rfl) ?_; rotate_left)
        | ((refine' Line.cons rfl (.run rfl rfl ?_) ?_)
           any_goals exact cBoxTab rfl rfl
           rotate_left))
  intro a w1 hF hb hN
  have hBs := hB.size
  replace hB := hB.trans (hb.mono hB.size)
  dsimp only [ext, Option.getD] at hF
  repeat with_reducible first | refine wp_seq ?_ | refine nThen ?_
  obtain ⟨z, ⟨g2, rfl, hg2, hb2⟩, hF⟩ := hF.open (s := 2) rfl
  have hg2 : w.heap.size ≤ g2 := hg2
  obtain ⟨p1, hp1, hF⟩ := hF.open (s := 1) rfl
  have hs1 := TL.below hs hB
  have hB0 := hB
  have hw1 := hB.size
  have hlt2 := hb2.lt
  replace hB := Below.refl w1.heap.size w1
  refine' region_ty 4 mixed (by kernel_rfl) hF ?_ ?_
  rotate_left
  · simp only [List.take_succ_cons, List.take_zero]
    repeat (first
        | exact Line.nil
        | (refine' Line.cons rfl (.new rfl rfl (run_alloc_i infoT83) rfl) ?_; rotate_left)
        | ((refine' Line.cons rfl (.run rfl rfl ?_) ?_)
           any_goals (first | exact cFldS46 rfl (.l rfl hp1) | exact cLoadU64 rfl (.t rfl) | exact cBuildC1 rfl rfl (fun w => buildTs83 _ w))
           rotate_left))
  intro a w2 hF hb hN
  have hBs := hB.size
  replace hB := hB.trans (hb.mono hB.size)
  simp only [List.take_succ_cons, List.take_zero, List.drop_succ_cons, List.drop_zero] at hF hN ⊢
  dsimp only [ext, Option.getD] at hF
  obtain ⟨z, ⟨g3, rfl, hg3, hb3⟩, hF⟩ := hF.open (s := 3) rfl
  have hg3 : w1.heap.size ≤ g3 := hg3
  refine tlStoreV (Δ := [(1, Ty.ex p1), (2, Ty.ex (.pointer (some ⟨g2, 0, none⟩))), (3, Ty.ex (.pointer (some ⟨g3, 0, none⟩)))]) hF rfl rfl rfl rfl (hF.getEx (s := 7) rfl) hb3 rfl sizeT83 (tabCells seed _ _ _) (hF.keep [1, 2, 3]) rfl ?_
  intro w3 hF hb3 hkx
  refine wpList_nil ?_
  replace hB := below_own hB hkx (by intro y hy; simp only [List.mem_singleton] at hy; omega)
  replace hb3 : Blk w3 g3 44 #[.int .u64 (seed : Int), .slice none 0 0] := hb3
  clear hkx
  repeat with_reducible first | refine wp_seq ?_ | refine nThen ?_
  refine' reg_all hF ?_ mixed (by kernel_rfl) ?_
  rotate_left
  · repeat (first | exact Line.nil | ((refine' Line.cons rfl (.run rfl rfl ?_) ?_); (any_goals exact cAssign rfl rfl); rotate_left))
  intro a w4 hF hb hN
  have hBs := hB.size
  replace hB := hB.trans (hb.mono hB.size)
  dsimp only [ext, Option.getD] at hF
  repeat with_reducible first | refine nThen ?_ | refine wp_block ?_
  replace hb3 := hb3.below hb
  refine loop_ty (fun m a wr => ∃ (i : Nat) (u : Value) (S : List Nat), i + m = L.length ∧ Fr 27 [(1, Ty.ex p1), (2, Ty.ex (.pointer (some ⟨g2, 0, none⟩))), (3, Ty.ex (.pointer (some ⟨g3, 0, none⟩))), (4, Ty.ex (.int .i64 (i : Int)))] a wr ∧ Below w1.heap.size w1 wr ∧ Blk wr g3 44 #[.int .u64 (seed : Int), u] ∧ Seg wr 79 65 u i (flatC (L.take i)) S ∧ ∀ y ∈ S, w1.heap.size ≤ y) L.length ?_ ?_
  · exact ⟨0, _, [], by omega, hF.keep [1, 2, 3, 4], hB, hb3, Seg.nil _ _ _, by simp⟩
  clear hF hB hb3
  rintro m a wr ⟨i, u, S, hi, hF, hB, hb3, hseg, hS⟩
  have hp := (Ty.at_ 27 [.int .u64 (seed : Int), s]).below hp1 hB
  have hsr := TL.below hs1 hB
  repeat with_reducible refine wp_seq ?_
  refine' reg_all hF ?_ mixed (by kernel_rfl) ?_
  rotate_left
  · repeat (first | exact Line.nil | ((refine' Line.cons rfl (.run rfl rfl ?_) ?_); (any_goals (first | exact cMove rfl rfl | exact cFldL46 rfl (.l rfl hp) | exact cRowOf46 rfl (.t rfl) | exact cLenH rfl (.l rfl hsr) (Ty.sl_isSl _ _ _) Tryz.underlying24 | exact cLss rfl rfl rfl)); rotate_left))
  intro a w5 hF hb hN
  have hBs := hB.size
  replace hB := hB.trans (hb.mono hB.size)
  dsimp only [ext, Option.getD] at hF
  repeat with_reducible refine nThen ?_
  replace hb3 := hb3.below hb
  replace hseg := hseg.below hb
  replace hp := (Ty.at_ 27 [.int .u64 (seed : Int), s]).below hp1 hB
  replace hsr := TL.below hs1 hB
  have h3 : (Ty.at_ 44 [.int .u64 (seed : Int), u]).p w5 (.pointer (some ⟨g3, 0, none⟩)) := blk_at hb3
  refine cond_ty hF rfl (fun hlt => ?_) (fun hge => ?_)
  · have hlt : i < L.length := by have := of_decide_eq_true hlt; omega
    have hsn := flatC_snoc L hlt
    have hC := cellOf16_ty (L.getD i default)
    repeat with_reducible first | refine wp_seq ?_ | refine nThen ?_ | refine wp_skip ?_ | refine wp_block ?_
    refine' region_ty 9 mixed (by kernel_rfl) hF ?_ ?_
    rotate_left
    · simp only [List.take_succ_cons, List.take_zero]
      repeat (first | exact Line.nil | ((refine' Line.cons rfl (.run rfl rfl ?_) ?_); (any_goals (first | exact cMove rfl rfl | exact cFldL46 rfl (.l rfl hp) | exact cRowOf46 rfl (.t rfl) | exact cFldL83 rfl (.l rfl h3) | exact cRowOf83 rfl (.t rfl) | exact cIndexCl (k := i) rfl (.l rfl hsr) rfl Tryz.underlying24 info34 hlt | exact cLoadCl34 rfl (.t rfl) | exact cCall1 rfl rfl hC | exact cBuildCl1 rfl rfl Tryz.underlying42 infoC49)); rotate_left))
    intro a w6 hF hb hN
    have hBs := hB.size
    replace hB := hB.trans (hb.mono hB.size)
    simp only [List.take_succ_cons, List.take_zero, List.drop_succ_cons, List.drop_zero] at hF hN ⊢
    dsimp only [ext, Option.getD] at hF
    replace hb3 := hb3.below hb
    replace hseg := hseg.below hb
    have hf3 := seg_far hseg hb3 (by decide)
    refine tlAppend (Δ := [(1, Ty.ex p1), (2, Ty.ex (.pointer (some ⟨g2, 0, none⟩))), (3, Ty.ex (.pointer (some ⟨g3, 0, none⟩))), (4, Ty.ex (.int .i64 (i : Int)))]) (n := i) (m := 1) (news := flatC [L.getD i default]) hF rfl rfl rfl rfl Tryz.underlying42 infoC49 zero65_cells rfl hseg (.t rfl) sl_news (flatC_len _) flatC_one' (by simp [maxLen]; omega) (by omega) (hF.keep [1, 2, 3, 4]) rfl ?_
    intro a w7 u' S' hF hseg' hk7 hS'
    replace hb3 := hb3.keeps hk7 (fun hm => hf3 g3 hm (by simp))
    have hbS : ∀ y ∈ S', w1.heap.size ≤ y := own_next hB hS hS'
    replace hB := below_own hB hk7 hS
    rw [flatC_one, hsn] at hseg'
    refine' tlOp hF rfl rfl rfl ?_ ?_
    rotate_left
    · exact cFieldExE rfl rfl Tryz.underlying44 rfl size_row83
    intro a w8 hF hb
    have hBs := hB.size
    replace hB := hB.trans (hb.mono hB.size)
    try (refine wpList_nil ?_)
    replace hb3 := hb3.below hb
    replace hseg' := hseg'.below hb
    have hcu := sl_cells (seg_isA hseg')
    refine tlStoreF (k := 0 + 1) (Δ := [(1, Ty.ex p1), (2, Ty.ex (.pointer (some ⟨g2, 0, none⟩))), (3, Ty.ex (.pointer (some ⟨g3, 0, none⟩))), (4, Ty.ex (.int .i64 (i : Int)))]) hF rfl rfl rfl rfl (hF.getEx (s := 24) rfl) hb3 (by rw [hcu]; exact Nat.le_refl 2) (by rw [hcu]; exact size_row83) (sl_one1 (seg_isA hseg')) (hF.keep [1, 2, 3, 4]) rfl ?_
    intro w9 hF hb3' hk9
    refine wpList_nil ?_
    replace hseg' := hseg'.keeps hk9 (seg_far hseg' hb3 (by decide))
    replace hB := below_own hB hk9 (by intro y hy; simp only [List.mem_singleton] at hy; omega)
    replace hb3 : Blk w9 g3 44 #[.int .u64 (seed : Int), u'] := by
      rw [Nat.zero_add, splice2 _ _ _ hcu] at hb3'
      exact hb3'
    repeat with_reducible first | refine nThen ?_ | refine nBlk ?_
    refine' reg_all hF ?_ mixed (by kernel_rfl) ?_
    rotate_left
    · repeat (first | exact Line.nil | ((refine' Line.cons rfl (.run rfl rfl ?_) ?_); (any_goals (first | exact cMove rfl rfl | exact cAssign rfl rfl | exact cAdd (r := ((i + 1 : Nat) : Int)) rfl rfl rfl (by omega))); rotate_left))
    intro a w10 hF hb hN
    have hBs := hB.size
    replace hB := hB.trans (hb.mono hB.size)
    dsimp only [ext, Option.getD] at hF
    repeat with_reducible refine nThen ?_
    exact ⟨m - 1, by omega, i + 1, u', S', by omega, hF.keep [1, 2, 3, 4], hB, hb3.below hb, hseg'.below hb, hbS⟩
  have hge : ¬ i < L.length := by have := of_decide_eq_false hge; omega
  obtain rfl : i = L.length := by omega
  rw [List.take_length] at hseg
  replace hb2 : Blk w5 g2 44 #[.int .u64 0, .slice none 0 0] := hb2.below hB
  replace hB := hB0.trans (hB.mono hw1)
  repeat with_reducible first | refine wp_seq ?_ | refine nThen ?_ | refine wp_exit ?_ | refine xThen ?_ | refine xHere ?_
  refine wp_region_lit ?_
  refine' tlOp hF rfl rfl rfl ?_ ?_
  rotate_left
  · exact cLoadT83 rfl (.l rfl h3)
  intro a w6 hF hb
  have hBs := hB.size
  replace hB := hB.trans (hb.mono hB.size)
  try (refine wpList_nil ?_)
  replace hb2 := hb2.below hb
  replace hseg := hseg.below hb
  refine tlStoreV (Δ := [(2, Ty.ex (.pointer (some ⟨g2, 0, none⟩)))]) hF rfl rfl rfl rfl (hF.getEx (s := 26) rfl) hb2 rfl sizeT83 (sl_one hseg.sl _) (hF.keep [2]) rfl ?_
  intro w7 hF hb2' hkx
  refine wpList_nil ?_
  replace hB := below_own hB hkx (by intro y hy; simp only [List.mem_singleton] at hy; omega)
  replace hseg := hseg.keeps hkx (seg_far hseg hb2 (by decide))
  repeat with_reducible first | refine nThen ?_ | refine wp_ret ?_
  refine retCell hF rfl rfl hb2' Tryz.underlying44 rfl sizeT83 ?_
  exact ⟨_, rfl, ⟨u, rfl, S, hseg, fun y hy => Nat.le_trans hw1 (hS y hy)⟩, hB⟩
set_option maxRecDepth 100000 in
set_option maxHeartbeats 2000000 in
theorem sameT16_ty (sa sb : Nat) (A B : List Cl) (hA : A.length ≤ 1000000) : Fn2 Tryz.prog 16 (Ty.tab 79 sa A) (Ty.tab 79 sb B) (Ty.ex (.bool (decide (sa = sb) && decide (A = B)))) := by
  refine ⟨fun args w => by kernel_rfl, fun w v u ⟨s, hv, hs⟩ ⟨s2, hu, hs2⟩ => ?_⟩
  subst hv hu
  let TA := Ty.cls 79 A
  let TB := Ty.cls 79 B
  by_cases hse : sa = sb
  rotate_left
  · rw [decide_eq_false hse, Bool.false_and]
    have e1 : (!decide ((sa : Int) = (sb : Int))) = true := by rw [decide_eq_false (by omega)]; rfl
    refine enter_ty 38 [Ty.ex (.agg #[.int .u64 (sa : Int), s]), Ty.ex (.agg #[.int .u64 (sb : Int), s2])] Tryz.func16 rfl (by kernel_rfl) ⟨rfl, rfl, trivial⟩ fun a hF => ?_
    have hB := Below.refl w.heap.size w
    repeat with_reducible refine wp_seq ?_
    refine' reg_all hF ?_ mixed (by kernel_rfl) ?_
    rotate_left
    · repeat (first | exact Line.nil | ((refine' Line.cons rfl (.run rfl rfl ?_) ?_); (any_goals (first | exact cAssign rfl rfl | exact cBoxTab rfl rfl)); rotate_left))
    intro a w1 hF hb hN
    have hBs := hB.size
    replace hB := hB.trans (hb.mono hB.size)
    dsimp only [ext, Option.getD] at hF
    repeat with_reducible first | refine wp_seq ?_ | refine nThen ?_
    refine' reg_all hF ?_ mixed (by kernel_rfl) ?_
    rotate_left
    · repeat (first | exact Line.nil | (refine' Line.cons rfl (.no rfl rfl rfl rfl rfl rfl) ?_; rotate_left) | ((refine' Line.cons rfl (.run rfl rfl ?_) ?_); (any_goals (first | exact cMove rfl rfl | exact cFldS83 rfl (.t rfl) | exact cLoadU64 rfl (.t rfl) | exact OpOk.b (cNeq rfl rfl rfl) e1 | exact cPickT rfl rfl rfl)); rotate_left))
    intro a w2 hF hb hN
    have hBs := hB.size
    replace hB := hB.trans (hb.mono hB.size)
    dsimp only [ext, Option.getD] at hF
    repeat with_reducible refine nThen ?_
    refine cond_t hF rfl ?_
    repeat with_reducible refine wp_seq ?_
    refine' reg_all hF ?_ mixed (by kernel_rfl) ?_
    rotate_left
    · repeat (first | exact Line.nil | ((refine' Line.cons rfl (.run rfl rfl ?_) ?_); (any_goals exact cAssign rfl rfl); rotate_left))
    intro a w3 hF hb hN
    have hBs := hB.size
    replace hB := hB.trans (hb.mono hB.size)
    dsimp only [ext, Option.getD] at hF
    repeat with_reducible first | refine nThen ?_ | refine wp_ret ?_ | refine rThen ?_
    refine ret1 hF rfl rfl fun z hz => ?_
    exact ⟨z, rfl, hz, hB⟩
  subst hse
  have e1 : (!decide ((sa : Int) = (sa : Int))) = false := by rw [decide_eq_true rfl]; rfl
  rw [decide_eq_true rfl, Bool.true_and]
  by_cases hlen : A.length = B.length
  rotate_left
  · rw [decide_eq_false (fun h => hlen (by rw [h]))]
    have e2 : (!decide ((A.length : Int) = (B.length : Int))) = true := by rw [decide_eq_false (by omega)]; rfl
    refine enter_ty 38 [Ty.ex (.agg #[.int .u64 (sa : Int), s]), Ty.ex (.agg #[.int .u64 (sa : Int), s2])] Tryz.func16 rfl (by kernel_rfl) ⟨rfl, rfl, trivial⟩ fun a hF => ?_
    have hB := Below.refl w.heap.size w
    repeat with_reducible refine wp_seq ?_
    refine' reg_all hF ?_ mixed (by kernel_rfl) ?_
    rotate_left
    · repeat (first | exact Line.nil | ((refine' Line.cons rfl (.run rfl rfl ?_) ?_); (any_goals (first | exact cAssign rfl rfl | exact cBoxTab rfl rfl)); rotate_left))
    intro a w1 hF hb hN
    have hBs := hB.size
    replace hB := hB.trans (hb.mono hB.size)
    dsimp only [ext, Option.getD] at hF
    repeat with_reducible first | refine wp_seq ?_ | refine nThen ?_
    have hs1 := TA.below hs hB
    have hs21 := TB.below hs2 hB
    refine' reg_all hF ?_ mixed (by kernel_rfl) ?_
    rotate_left
    · repeat (first | exact Line.nil | ((first | refine' Line.cons rfl (.run rfl rfl ?_) ?_ | refine' Line.cons rfl (.yes rfl rfl rfl rfl ?_) ?_); (any_goals (first | exact cMove rfl rfl | exact cFldS83 rfl (.t rfl) | exact cLoadU64 rfl (.t rfl) | exact OpOk.b (cNeq rfl rfl rfl) e1 | exact cFldL83 rfl (.t rfl) | exact cRowOf83 rfl (.t rfl) | exact cLenH rfl (.l rfl hs1) (Ty.sl_isSl _ _ _) Tryz.underlying42 | exact cLenH rfl (.l rfl hs21) (Ty.sl_isSl _ _ _) Tryz.underlying42 | exact OpOk.b (cNeq rfl rfl rfl) e2 | exact cPickF rfl rfl rfl)); rotate_left))
    intro a w2 hF hb hN
    have hBs := hB.size
    replace hB := hB.trans (hb.mono hB.size)
    dsimp only [ext, Option.getD] at hF
    repeat with_reducible refine nThen ?_
    refine cond_t hF rfl ?_
    repeat with_reducible refine wp_seq ?_
    refine' reg_all hF ?_ mixed (by kernel_rfl) ?_
    rotate_left
    · repeat (first | exact Line.nil | ((refine' Line.cons rfl (.run rfl rfl ?_) ?_); (any_goals exact cAssign rfl rfl); rotate_left))
    intro a w3 hF hb hN
    have hBs := hB.size
    replace hB := hB.trans (hb.mono hB.size)
    dsimp only [ext, Option.getD] at hF
    repeat with_reducible first | refine nThen ?_ | refine wp_ret ?_ | refine rThen ?_
    refine ret1 hF rfl rfl fun z hz => ?_
    exact ⟨z, rfl, hz, hB⟩
  have e2 : (!decide ((A.length : Int) = (B.length : Int))) = false := by rw [decide_eq_true (by omega)]; rfl
  refine enter_ty 38 [Ty.ex (.agg #[.int .u64 (sa : Int), s]), Ty.ex (.agg #[.int .u64 (sa : Int), s2])] Tryz.func16 rfl (by kernel_rfl) ⟨rfl, rfl, trivial⟩ fun a hF => ?_
  have hB := Below.refl w.heap.size w
  repeat with_reducible refine wp_seq ?_
  refine' reg_all hF ?_ mixed (by kernel_rfl) ?_
  rotate_left
  · repeat (first | exact Line.nil | ((refine' Line.cons rfl (.run rfl rfl ?_) ?_); (any_goals (first | exact cAssign rfl rfl | exact cBoxTab rfl rfl)); rotate_left))
  intro a w1 hF hb hN
  have hBs := hB.size
  replace hB := hB.trans (hb.mono hB.size)
  dsimp only [ext, Option.getD] at hF
  repeat with_reducible first | refine wp_seq ?_ | refine nThen ?_
  have hs1 := TA.below hs hB
  have hs21 := TB.below hs2 hB
  refine' reg_all hF ?_ mixed (by kernel_rfl) ?_
  rotate_left
  · repeat (first | exact Line.nil | ((first | refine' Line.cons rfl (.run rfl rfl ?_) ?_ | refine' Line.cons rfl (.yes rfl rfl rfl rfl ?_) ?_); (any_goals (first | exact cMove rfl rfl | exact cFldS83 rfl (.t rfl) | exact cLoadU64 rfl (.t rfl) | exact OpOk.b (cNeq rfl rfl rfl) e1 | exact cFldL83 rfl (.t rfl) | exact cRowOf83 rfl (.t rfl) | exact cLenH rfl (.l rfl hs1) (Ty.sl_isSl _ _ _) Tryz.underlying42 | exact cLenH rfl (.l rfl hs21) (Ty.sl_isSl _ _ _) Tryz.underlying42 | exact OpOk.b (cNeq rfl rfl rfl) e2 | exact cPickF rfl rfl rfl)); rotate_left))
  intro a w2 hF hb hN
  have hBs := hB.size
  replace hB := hB.trans (hb.mono hB.size)
  dsimp only [ext, Option.getD] at hF
  repeat with_reducible refine nThen ?_
  refine cond_f hF rfl ?_
  repeat with_reducible first | refine wp_seq ?_ | refine nThen ?_ | refine wp_skip ?_
  refine' reg_all hF ?_ mixed (by kernel_rfl) ?_
  rotate_left
  · repeat (first | exact Line.nil | ((refine' Line.cons rfl (.run rfl rfl ?_) ?_); (any_goals exact cAssign rfl rfl); rotate_left))
  intro a w3 hF hb hN
  have hBs := hB.size
  replace hB := hB.trans (hb.mono hB.size)
  dsimp only [ext, Option.getD] at hF
  repeat with_reducible first | refine nThen ?_ | refine wp_block ?_
  refine loop_ty (fun m a wr => ∃ k : Nat, k + m = A.length ∧ Fr 38 [(2, Ty.at_ 44 [.int .u64 (sa : Int), s]), (3, Ty.at_ 44 [.int .u64 (sa : Int), s2]), (5, Ty.ex (.int .i64 (k : Int)))] a wr ∧ Below w.heap.size w wr ∧ ∀ j, j < k → A.getD j default = B.getD j default) A.length ?_ ?_
  · exact ⟨0, by omega, hF.keep [2, 3, 5], hB, fun j hj => by omega⟩
  clear hF hB hs1 hs21
  rintro m a wr ⟨k, hk, hF, hB, hlo⟩
  have hsr := TA.below hs hB
  repeat with_reducible refine wp_seq ?_
  refine' reg_all hF ?_ mixed (by kernel_rfl) ?_
  rotate_left
  · repeat (first | exact Line.nil | ((refine' Line.cons rfl (.run rfl rfl ?_) ?_); (any_goals (first | exact cMove rfl rfl | exact cFldL83 rfl (.t rfl) | exact cRowOf83 rfl (.t rfl) | exact cLenH rfl (.l rfl hsr) (Ty.sl_isSl _ _ _) Tryz.underlying42 | exact cLss rfl rfl rfl)); rotate_left))
  intro a w4 hF hb hN
  have hBs := hB.size
  replace hB := hB.trans (hb.mono hB.size)
  dsimp only [ext, Option.getD] at hF
  repeat with_reducible refine nThen ?_
  replace hsr := TA.below hs hB
  have hs2r := TB.below hs2 hB
  refine cond_ty hF rfl (fun hlt => ?_) (fun hge => ?_)
  · have hlt : k < A.length := by have := of_decide_eq_true hlt; omega
    repeat with_reducible first | refine wp_seq ?_ | refine nThen ?_ | refine wp_skip ?_ | refine wp_block ?_
    refine' reg_all hF ?_ mixed (by kernel_rfl) ?_
    rotate_left
    · repeat (first | exact Line.nil | ((refine' Line.cons rfl (.run rfl rfl ?_) ?_); (any_goals (first | exact cMove rfl rfl | exact cFldL83 rfl (.t rfl) | exact cRowOf83 rfl (.t rfl) | exact cIndexCl (k := k) rfl (.l rfl hsr) rfl Tryz.underlying42 info49 hlt | exact cIndexCl (k := k) rfl (.l rfl hs2r) rfl Tryz.underlying42 info49 (by omega) | exact cLoadCl49 rfl (.t rfl) | exact cNeqAgg rfl rfl rfl guard49 (fun w => neq_cl49 _ _ w))); rotate_left))
    intro a w5 hF hb hN
    have hBs := hB.size
    replace hB := hB.trans (hb.mono hB.size)
    dsimp only [ext, Option.getD] at hF
    repeat with_reducible refine nThen ?_
    refine cond_ty hF rfl (fun hbad => ?_) (fun hok => ?_)
    · have hbad : ¬ A.getD k default = B.getD k default := by simpa using hbad
      repeat with_reducible refine wp_seq ?_
      refine' reg_all hF ?_ mixed (by kernel_rfl) ?_
      rotate_left
      · repeat (first | exact Line.nil | ((refine' Line.cons rfl (.run rfl rfl ?_) ?_); (any_goals exact cAssign rfl rfl); rotate_left))
      intro a w6 hF hb hN
      have hBs := hB.size
      replace hB := hB.trans (hb.mono hB.size)
      dsimp only [ext, Option.getD] at hF
      repeat with_reducible first | refine nThen ?_ | refine wp_ret ?_ | refine rThen ?_ | refine rBlk ?_
      refine ret1 hF rfl rfl fun z hz => ?_
      exact ⟨z, rfl, by rw [decide_eq_false (show ¬ A = B from fun h => hbad (by rw [h]))]; exact hz, hB⟩
    · have hok : A.getD k default = B.getD k default := by simpa using hok
      repeat with_reducible first | refine nThen ?_ | refine nBlk ?_ | refine wp_skip ?_
      refine' reg_all hF ?_ mixed (by kernel_rfl) ?_
      rotate_left
      · repeat (first | exact Line.nil | ((refine' Line.cons rfl (.run rfl rfl ?_) ?_); (any_goals (first | exact cMove rfl rfl | exact cAssign rfl rfl | exact cAdd (r := ((k + 1 : Nat) : Int)) rfl rfl rfl (by omega))); rotate_left))
      intro a w6 hF hb hN
      have hBs := hB.size
      replace hB := hB.trans (hb.mono hB.size)
      dsimp only [ext, Option.getD] at hF
      repeat with_reducible refine nThen ?_
      refine ⟨m - 1, by omega, k + 1, by omega, hF.keep [2, 3, 5], hB, fun j hj => ?_⟩
      by_cases hjk : j < k
      · exact hlo j hjk
      · obtain rfl : j = k := by omega
        exact hok
  · have hge : ¬ k < A.length := by have := of_decide_eq_false hge; omega
    repeat with_reducible first | refine wp_seq ?_ | refine nThen ?_ | refine wp_exit ?_ | refine xThen ?_ | refine xHere ?_
    refine' reg_all hF ?_ mixed (by kernel_rfl) ?_
    rotate_left
    · repeat (first | exact Line.nil | ((refine' Line.cons rfl (.run rfl rfl ?_) ?_); (any_goals exact cAssign rfl rfl); rotate_left))
    intro a w5 hF hb hN
    have hBs := hB.size
    replace hB := hB.trans (hb.mono hB.size)
    dsimp only [ext, Option.getD] at hF
    repeat with_reducible first | refine nThen ?_ | refine wp_ret ?_
    refine ret1 hF rfl rfl fun z hz => ?_
    exact ⟨z, rfl, by rw [decide_eq_true (list_extD hlen fun j hj => hlo j (by omega))]; exact hz, hB⟩
end Go.Proofs.YtmlbkcpmgcjblaaGreat

/- Layer 14 by types: awake. -/
namespace Go.Proofs.YtmlbkcpmgcjblaaGreat
open Go.RowKit

section
variable {P : Program} {ops : Array Oper} {Q : Exit → Act → World → Prop} {rest : List Oper} {o o2 : Oper} {a : Act} {w : World} {N : Nat} {Γ : Ctx}
/-- A line whose guard is met. -/
theorem tlOpG {j s d : Nat} {V : Ty} (hF : Fr N Γ a w) (hg : o.guard = some (j, true)) (hj : slotOf ops j = some s) (hs : look Γ s = some (Ty.ex (.bool true))) (hd : o.dst = some d) (hN : decide (d < N) = true) (h : OpOk P w Γ o V) (hk : ∀ a' w', Fr N ((d, V) :: Γ) a' w' → Below w.heap.size w w' → wpList P ops Q rest a' w') : wpList P ops Q (o :: rest) a w := by
  obtain ⟨v, h1, h2⟩ := hF.val s _ hs
  have h2 : v = .bool true := h2
  subst h2
  have hw : Region.wanted o (yielded ops a.tmps) = true := by simp [Region.wanted, hg, yielded_of hj h1]
  refine wpList_step fun K hK => ?_
  rw [if_pos hw]
  exact h a w K Q (Below.refl _ _) (fun s τ _ hs => hF.val s τ hs) fun v w' hv hb => by
    rw [hd]
    exact hK _ _ (hk _ _ (hF.put (of_decide_eq_true hN) hb hv) hb)
end
end Go.Proofs.YtmlbkcpmgcjblaaGreat

/- Layer 14 by types: the walk of PlaceParts. -/
namespace Go.Proofs.YtmlbkcpmgcjblaaGreat
open Go.RowKit

end Go.Proofs.YtmlbkcpmgcjblaaGreat

/- Layer 14 by types: the document's Places. -/
namespace Go.Proofs.YtmlbkcpmgcjblaaGreat
open Go.RowKit

theorem shrN (s k : Nat) : ((s : Nat) : Int).fdiv (2 ^ (((8 * k : Nat) : Int)).toNat) = ((s / 256 ^ k : Nat) : Int) := by
  have e : (2 : Nat) ^ (8 * k) = 256 ^ k := by rw [Nat.pow_mul]
  have e2 : ((2 : Int) ^ (8 * k)) = ((256 ^ k : Nat) : Int) := by rw [← e, Int.natCast_pow]; rfl
  rw [Int.toNat_natCast, Int.fdiv_eq_ediv_of_nonneg _ (Int.le_of_lt (Int.pow_pos (by decide))), e2, Int.natCast_ediv]
theorem cAllocV {P : Program} {w0 : World} {Γ : Ctx} {o : Oper} {t : TypeId} {z : Array Value} (ho : o.op = .alloc t) (hz : ∀ w : World, (Instr.alloc t true (.tuple #[])).run P w = .ok (.pointer (some ⟨w.heap.size, 0, none⟩)) (w.alloc (.cells z t))) : OpOk P w0 Γ o (Ty.var w0 t z) :=
  .new fun a w hb _ => ⟨_, _, ⟨w.heap.size, rfl, hb.size, Blk.new w _ _⟩, ((Keeps.refl [] w).alloc _).below, by unfold execOp; simp [ho, hz]⟩
theorem infoRS : (Tryz.prog.info? 77).map (fun i => (i.zero, i.size, i.bytes)) = some (some (.agg (u8s (List.replicate 32 0))), 32, 32) := by kernel_rfl
set_option maxRecDepth 100000 in
set_option maxHeartbeats 2000000 in
theorem rplaces_ty (seed : Nat) (n : Int) (x : Sm) (hsd : seed < 18446744073709551616) : Fn3 Tryz.prog 67 (Ty.ex (.int .u64 (seed : Int))) (Ty.ex (.int .i64 n)) (Ty.ex (.agg (u8s x.l))) (Ty.sl 3 (placesN seed n x).length ((placesN seed n x).map ivn)) := by
  refine ⟨fun args w => by kernel_rfl, fun w v u q hv hu hq => ?_⟩
  have hg := goodCells_ty n
  by_cases hgn : goodN n = true
  rotate_left
  · have hgn : goodN n = false := by simpa using hgn
    have e : placesN seed n x = [] := by unfold placesN; rw [hgn]; rfl
    rw [e]
    rw [hgn] at hg
    refine enter_ty 55 [Ty.ex (.int .u64 (seed : Int)), Ty.ex (.int .i64 n), Ty.ex (.agg (u8s x.l))] Tryz.func67 rfl (by kernel_rfl) ⟨hv, hu, hq, trivial⟩ fun a hF => ?_
    have hB := Below.refl w.heap.size w
    repeat with_reducible refine wp_seq ?_
    refine' reg_all hF ?_ mixed (by kernel_rfl) ?_
    rotate_left
    · repeat (first | exact Line.nil | ((refine' Line.cons rfl (.run rfl rfl ?_) ?_); (any_goals (first | exact cAssign rfl rfl | exact cBoxSum rfl rfl)); rotate_left))
    intro a w1 hF hb hN
    have hBs := hB.size
    replace hB := hB.trans (hb.mono hB.size)
    dsimp only [ext, Option.getD] at hF
    repeat with_reducible first | refine wp_seq ?_ | refine nThen ?_
    refine' reg_all hF ?_ mixed (by kernel_rfl) ?_
    rotate_left
    · repeat (first | exact Line.nil | ((refine' Line.cons rfl (.run rfl rfl ?_) ?_); (any_goals (first | exact cMove rfl rfl | exact cNot rfl rfl | exact cCall1 rfl rfl hg)); rotate_left))
    intro a w2 hF hb hN
    have hBs := hB.size
    replace hB := hB.trans (hb.mono hB.size)
    dsimp only [ext, Option.getD] at hF
    repeat with_reducible refine nThen ?_
    refine cond_t hF rfl ?_
    repeat with_reducible refine wp_seq ?_
    refine' reg_all hF ?_ mixed (by kernel_rfl) ?_
    rotate_left
    · repeat (first | exact Line.nil | ((refine' Line.cons rfl (.run rfl rfl ?_) ?_); (any_goals exact cAssign rfl rfl); rotate_left))
    intro a w3 hF hb hN
    have hBs := hB.size
    replace hB := hB.trans (hb.mono hB.size)
    dsimp only [ext, Option.getD] at hF
    repeat with_reducible first | refine nThen ?_ | refine wp_ret ?_ | refine rThen ?_
    refine ret1 hF rfl rfl fun z hz => ?_
    have hz : z = .slice none 0 0 := hz
    subst hz
    exact ⟨_, rfl, (Seg.nil w3 3 1).sl, hB⟩
  have e : placesN seed n x = plc (placeS seed x) (n.toNat / 3) 3 := by unfold placesN; rw [hgn]; rfl
  rw [e, plc_len]
  have hgd := of_decide_eq_true hgn
  rw [hgn] at hg
  obtain ⟨N, rfl⟩ : ∃ N : Nat, n = (N : Int) := ⟨n.toNat, by omega⟩
  rw [Int.toNat_natCast]
  have hO := r1of_ty ((80 :: leB seed 8) ++ x.l) (Ty.sl 5 41 ((80 :: leB seed 8).map bv ++ x.enc)) (by
    have h : ((80 :: leB seed 8) ++ x.l).length = 41 := by rw [List.length_append, x.len, List.length_cons, leB_len]
    rw [h, List.map_append]
    exact reads_sl _ _ _) (by
    intro y hy
    rcases List.mem_append.1 hy with hy | hy
    · rcases List.mem_cons.1 hy with rfl | hy
      · decide
      · exact leB_lt seed 8 y hy
    · exact x.lt y hy) (by rw [List.length_append, x.len, List.length_cons, leB_len]; decide)
  have hY : shaS ((80 :: leB seed 8) ++ x.l) = placeS seed x := rfl
  rw [hY] at hO
  generalize placeS seed x = Y at *
  clear hY e
  have heP : Enters Tryz.prog 86 := fun args w => by kernel_rfl
  refine enter_ty 55 [Ty.ex (.int .u64 (seed : Int)), Ty.ex (.int .i64 (N : Int)), Ty.ex (.agg (u8s x.l))] Tryz.func67 rfl (by kernel_rfl) ⟨hv, hu, hq, trivial⟩ fun a hF => ?_
  have hB := Below.refl w.heap.size w
  repeat with_reducible refine wp_seq ?_
  refine' reg_all hF ?_ mixed (by kernel_rfl) ?_
  rotate_left
  · repeat (first | exact Line.nil | ((refine' Line.cons rfl (.run rfl rfl ?_) ?_); (any_goals (first | exact cAssign rfl rfl | exact cBoxSum rfl rfl)); rotate_left))
  intro a w1 hF hb hN
  have hBs := hB.size
  replace hB := hB.trans (hb.mono hB.size)
  dsimp only [ext, Option.getD] at hF
  repeat with_reducible first | refine wp_seq ?_ | refine nThen ?_
  refine' reg_all hF ?_ mixed (by kernel_rfl) ?_
  rotate_left
  · repeat (first | exact Line.nil | ((refine' Line.cons rfl (.run rfl rfl ?_) ?_); (any_goals (first | exact cMove rfl rfl | exact cNot rfl rfl | exact cCall1 rfl rfl hg)); rotate_left))
  intro a w2 hF hb hN
  have hBs := hB.size
  replace hB := hB.trans (hb.mono hB.size)
  dsimp only [ext, Option.getD] at hF
  repeat with_reducible refine nThen ?_
  refine cond_f hF rfl ?_
  repeat with_reducible first | refine wp_seq ?_ | refine nThen ?_ | refine wp_skip ?_
  refine' reg_all hF ?_ mixed (by kernel_rfl) ?_
  rotate_left
  · repeat (first | exact Line.nil | ((refine' Line.cons rfl (.run rfl rfl ?_) ?_); (any_goals (first | exact cAssign rfl rfl | exact cBuildB1 rfl rfl)); rotate_left))
  intro a w3 hF hb hN
  have hBs := hB.size
  replace hB := hB.trans (hb.mono hB.size)
  dsimp only [ext, Option.getD] at hF
  repeat with_reducible first | refine wp_seq ?_ | refine nThen ?_
  obtain ⟨u7, ⟨S7, hs7, hS7⟩, hF⟩ := hF.open (s := 7) rfl
  refine' reg_all hF ?_ mixed (by kernel_rfl) ?_
  rotate_left
  · repeat (first | exact Line.nil | ((refine' Line.cons rfl (.run rfl rfl ?_) ?_); (any_goals exact cAssign rfl rfl); rotate_left))
  intro a w4 hF hb hN
  have hBs := hB.size
  replace hB := hB.trans (hb.mono hB.size)
  dsimp only [ext, Option.getD] at hF
  repeat with_reducible first | refine nThen ?_ | refine wp_block ?_
  refine loop_ty (fun m a wr => ∃ (k : Nat) (u : Value) (S : List Nat), k + m = 8 ∧ Fr 55 [(0, Ty.ex (.int .u64 (seed : Int))), (1, Ty.ex (.int .i64 (N : Int))), (5, Ty.at_ 77 x.enc), (7, Ty.ex u), (8, Ty.ex (.int .i64 (k : Int)))] a wr ∧ Below w.heap.size w wr ∧ Seg wr 5 1 u (1 + k) ((80 :: leB seed k).map bv) S ∧ ∀ y ∈ S, w.heap.size ≤ y) 8 ?_ ?_
  · exact ⟨0, u7, S7, by omega, hF.keep [0, 1, 5, 7, 8], hB, hs7.below hb, fun y hy => by have := hS7 y hy; omega⟩
  clear hF hB
  rintro m a wr ⟨k, u, S, hk, hF, hB, hseg, hS⟩
  repeat with_reducible refine wp_seq ?_
  refine' reg_all hF ?_ mixed (by kernel_rfl) ?_
  rotate_left
  · repeat (first | exact Line.nil | ((refine' Line.cons rfl (.run rfl rfl ?_) ?_); (any_goals (first | exact cMove rfl rfl | exact cLss rfl rfl rfl)); rotate_left))
  intro a w5 hF hb hN
  have hBs := hB.size
  replace hB := hB.trans (hb.mono hB.size)
  dsimp only [ext, Option.getD] at hF
  repeat with_reducible refine nThen ?_
  replace hseg := hseg.below hb
  refine cond_ty hF rfl (fun hlt => ?_) (fun hge => ?_)
  · have hlt : k < 8 := by have := of_decide_eq_true hlt; omega
    have hnx : (80 :: leB seed k).map bv ++ [bv (seed / 256 ^ k % 256)] = (80 :: leB seed (k + 1)).map bv := by rw [leB]; simp
    have hZl : seed / 256 ^ k < 18446744073709551616 := Nat.lt_of_le_of_lt (Nat.div_le_self _ _) hsd
    have hsh := shrN seed k
    generalize seed / 256 ^ k = Z at *
    repeat with_reducible first | refine wp_seq ?_ | refine nThen ?_ | refine wp_skip ?_ | refine wp_block ?_
    refine' region_ty 8 mixed (by kernel_rfl) hF ?_ ?_
    rotate_left
    · simp only [List.take_succ_cons, List.take_zero]
      repeat (first | exact Line.nil | ((refine' Line.cons rfl (.run rfl rfl ?_) ?_); (any_goals (first | exact cMove rfl rfl | exact cMul (r := ((8 * k : Nat) : Int)) rfl rfl rfl (by omega) | exact cConvR (r := ((8 * k : Nat) : Int)) rfl rfl Tryz.underlying3 Tryz.underlying38 (by rw [IntKind.wrap_u64]; omega) | exact cShr (r := ((Z : Nat) : Int)) rfl rfl rfl ⟨by omega, by simp [IntKind.bits]; omega⟩ hsh | exact cConvR (r := ((Z % 256 : Nat) : Int)) rfl rfl Tryz.underlying22 Tryz.underlying5 (by simp [IntKind.wrap, IntKind.bits, IntKind.signed]) | exact cBuildV (vs := [bv (Z % 256)]) rfl (parts1v rfl rfl) Tryz.underlying39 infoU8 rfl (by simp [Value.cells, bv]) (by decide) (by simp [maxLen]))); rotate_left))
    intro a w6 hF hb hN
    have hBs := hB.size
    replace hB := hB.trans (hb.mono hB.size)
    simp only [List.take_succ_cons, List.take_zero, List.drop_succ_cons, List.drop_zero] at hF hN ⊢
    dsimp only [ext, Option.getD] at hF
    replace hseg := hseg.below hb
    refine tlAppend (Δ := [(0, Ty.ex (.int .u64 (seed : Int))), (1, Ty.ex (.int .i64 (N : Int))), (5, Ty.at_ 77 x.enc), (8, Ty.ex (.int .i64 (k : Int)))]) (n := 1 + k) (m := 1) (news := [bv (Z % 256)]) hF rfl rfl rfl rfl Tryz.underlying39 infoU8 rfl rfl hseg (.t rfl) sl_news rfl (by simp [bv, Value.oneCell']) (by simp [maxLen]; omega) (by omega) (hF.keep [0, 1, 5, 8]) rfl ?_
    intro a w7 u' S' hF hseg' hk7 hS'
    have hbS : ∀ y ∈ S', w.heap.size ≤ y := own_next hB hS hS'
    replace hB := below_own hB hk7 hS
    rw [hnx] at hseg'
    refine' tlOp hF rfl rfl rfl ?_ ?_
    rotate_left
    · exact cAssign rfl rfl
    intro a w8 hF hb
    have hBs := hB.size
    replace hB := hB.trans (hb.mono hB.size)
    try (refine wpList_nil ?_)
    repeat with_reducible first | refine nThen ?_ | refine nBlk ?_
    replace hseg' := hseg'.below hb
    refine' reg_all hF ?_ mixed (by kernel_rfl) ?_
    rotate_left
    · repeat (first | exact Line.nil | ((refine' Line.cons rfl (.run rfl rfl ?_) ?_); (any_goals (first | exact cMove rfl rfl | exact cAssign rfl rfl | exact cAdd (r := ((k + 1 : Nat) : Int)) rfl rfl rfl (by omega))); rotate_left))
    intro a w10 hF hb hN
    have hBs := hB.size
    replace hB := hB.trans (hb.mono hB.size)
    dsimp only [ext, Option.getD] at hF
    repeat with_reducible refine nThen ?_
    exact ⟨m - 1, by omega, k + 1, u', S', by omega, hF.keep [0, 1, 5, 7, 8], hB, hseg'.below hb, hbS⟩
  have hge : ¬ k < 8 := by have := of_decide_eq_false hge; omega
  obtain rfl : k = 8 := by omega
  have hw5 : w.heap.size ≤ w5.heap.size := hB.size
  repeat with_reducible first | refine wp_seq ?_ | refine nThen ?_ | refine wp_exit ?_ | refine xThen ?_ | refine xHere ?_
  refine wp_region_lit ?_
  refine' tlOp hF rfl rfl rfl ?_ ?_
  rotate_left
  · exact cMove rfl rfl
  intro a w6 hF hb
  have hBs := hB.size
  replace hB := hB.trans (hb.mono hB.size)
  try (refine wpList_nil ?_)
  replace hseg := hseg.below hb
  refine' tlOp hF rfl rfl rfl ?_ ?_
  rotate_left
  · exact cLoadSum rfl (.t rfl) Tryz.underlying77 sizeR
  intro a w7 hF hb
  have hBs := hB.size
  replace hB := hB.trans (hb.mono hB.size)
  try (refine wpList_nil ?_)
  replace hseg := hseg.below hb
  refine tlCall rfl rfl rfl (args := #[u, .agg (u8s x.l)]) ?_ heP (R := fun u' w' => (∃ S', Seg w' 5 1 u' 41 ((80 :: leB seed 8).map bv ++ x.enc) S') ∧ Keeps S w7 w') ?_ ?_
  · simp only [List.map_toArray, List.map_cons, List.map_nil, hF.getEx (s := 30) rfl, hF.getEx (s := 31) rfl]
  · refine (putsum_any x u 9 _ S w7 hseg (by decide)).mono fun e w' ⟨u', h1, ⟨S', h2, _⟩, h3⟩ => ⟨u', h1, ⟨S', h2⟩, h3⟩
  rintro u' w8 ⟨⟨S', hs8⟩, hk8⟩
  have hF := ((hF.keep [1]).free hk8 hseg.blocks rfl).put (d := 32) (by decide) (Below.refl _ _) (V := Ty.ex u') rfl
  replace hB := below_own hB hk8 hS
  have hu8 : (Ty.sl 5 41 ((80 :: leB seed 8).map bv ++ x.enc)).p w8 u' := hs8.sl
  refine' tlOp hF rfl rfl rfl ?_ ?_
  rotate_left
  · exact cCallH1 rfl (.l rfl hu8) hO
  intro a w9 hF hb
  have hBs := hB.size
  replace hB := hB.trans (hb.mono hB.size)
  try (refine wpList_nil ?_)
  have hw9 : w.heap.size ≤ w9.heap.size := hB.size
  refine' tlOp hF rfl rfl rfl ?_ ?_
  rotate_left
  · exact cAllocV rfl (run_alloc_i infoRS)
  intro a w10 hF hb
  have hBs := hB.size
  replace hB := hB.trans (hb.mono hB.size)
  try (refine wpList_nil ?_)
  obtain ⟨z, ⟨gx, rfl, hgx, hbx⟩, hF⟩ := hF.open (s := 9) rfl
  have hgx : w9.heap.size ≤ gx := hgx
  have hgx : w.heap.size ≤ gx := Nat.le_trans hw9 hgx
  refine tlStoreV (Δ := [(1, Ty.ex (.int .i64 (N : Int))), (9, Ty.ex (.pointer (some ⟨gx, 0, none⟩)))]) hF rfl rfl rfl rfl (hF.getEx (s := 33) rfl) hbx (by show (u8s _).size = (u8s _).size; rw [u8s_size, u8s_size, Sm.len]; rfl) (by show _ = some (u8s _).size; rw [u8s_size, Sm.len]; exact sizeR) (u8s_one _) (hF.keep [1, 9]) rfl ?_
  intro w11 hF hbx hkx
  refine wpList_nil ?_
  replace hB := below_own hB hkx (by intro y hy; simp only [List.mem_singleton] at hy; omega)
  have hax : (Ty.at_ 77 Y.enc).p w11 (.pointer (some ⟨gx, 0, none⟩)) := by
    have h := blk_at hbx
    rwa [show (Value.agg (u8s Y.l)).cells.toList = Y.enc from u8s_list _] at h
  replace hF := hF.as hF (s := 9) (σ := Ty.at_ 77 Y.enc) rfl (fun v hv => by have hv : v = .pointer (some ⟨gx, 0, none⟩) := hv; subst hv; exact hax)
  obtain ⟨p, hp⟩ : ∃ p, p = N / 3 := ⟨_, rfl⟩
  have hp1 : 1 ≤ p := by omega
  have hp2 : p ≤ 400 := by omega
  rw [← hp]
  repeat with_reducible first | refine wp_seq ?_ | refine nThen ?_
  refine' reg_all hF ?_ mixed (by kernel_rfl) ?_
  rotate_left
  · repeat (first | exact Line.nil | ((refine' Line.cons rfl (.run rfl rfl ?_) ?_); (any_goals exact cAssign rfl rfl); rotate_left))
  intro a w12 hF hb hN
  have hBs := hB.size
  replace hB := hB.trans (hb.mono hB.size)
  dsimp only [ext, Option.getD] at hF
  repeat with_reducible first | refine wp_seq ?_ | refine nThen ?_
  refine' reg_all hF ?_ mixed (by kernel_rfl) ?_
  rotate_left
  · repeat (first | exact Line.nil | ((refine' Line.cons rfl (.run rfl rfl ?_) ?_); (any_goals (first | exact cMove rfl rfl | exact cAssign rfl rfl | exact cQuoI (n := 3) (r := p) rfl rfl rfl (by decide) hp.symm (by omega))); rotate_left))
  intro a w13 hF hb hN
  have hBs := hB.size
  replace hB := hB.trans (hb.mono hB.size)
  dsimp only [ext, Option.getD] at hF
  repeat with_reducible first | refine wp_seq ?_ | refine nThen ?_
  refine' reg_all hF ?_ mixed (by kernel_rfl) ?_
  rotate_left
  · repeat (first | exact Line.nil | ((refine' Line.cons rfl (.run rfl rfl ?_) ?_); (any_goals exact cAssign rfl rfl); rotate_left))
  intro a w14 hF hb hN
  have hBs := hB.size
  replace hB := hB.trans (hb.mono hB.size)
  dsimp only [ext, Option.getD] at hF
  repeat with_reducible first | refine nThen ?_ | refine wp_block ?_
  refine loop_ty (fun m a wr => ∃ (k : Nat) (u : Value) (S : List Nat), k + m = 3 ∧ Fr 55 [(9, Ty.at_ 77 Y.enc), (11, Ty.ex (.int .i64 (p : Int))), (10, Ty.ex u), (12, Ty.ex (.int .i64 (k : Int)))] a wr ∧ Below w.heap.size w wr ∧ Seg wr 3 1 u k ((plc Y p k).map ivn) S ∧ ∀ y ∈ S, w.heap.size ≤ y) 3 ?_ ?_
  · exact ⟨0, _, [], by omega, hF.keep [9, 11, 10, 12], hB, Seg.nil _ _ _, by simp⟩
  clear hF hB
  rintro m a wr ⟨k, u, S, hk, hF, hB, hseg, hS⟩
  repeat with_reducible refine wp_seq ?_
  refine' reg_all hF ?_ mixed (by kernel_rfl) ?_
  rotate_left
  · repeat (first | exact Line.nil | ((refine' Line.cons rfl (.run rfl rfl ?_) ?_); (any_goals (first | exact cMove rfl rfl | exact cLss rfl rfl rfl)); rotate_left))
  intro a w15 hF hb hN
  have hBs := hB.size
  replace hB := hB.trans (hb.mono hB.size)
  dsimp only [ext, Option.getD] at hF
  repeat with_reducible refine nThen ?_
  replace hseg := hseg.below hb
  refine cond_ty hF rfl (fun hlt => ?_) (fun hge => ?_)
  · have hlt : k < 3 := by have := of_decide_eq_true hlt; omega
    have hW := rword_ty Y k (by omega)
    have hWl := word_lt Y k
    have hnx : (plc Y p k).map ivn ++ [ivn (k * p + wordF Y.l k 8 % p)] = (plc Y p (k + 1)).map ivn := by rw [plc]; simp
    have hm : wordF Y.l k 8 % p < p := Nat.mod_lt _ (by omega)
    have hkp : k * p ≤ 2 * p := Nat.mul_le_mul_right _ (by omega)
    generalize wordF Y.l k 8 = V at *
    generalize hM : V % p = M at *
    repeat with_reducible first | refine wp_seq ?_ | refine nThen ?_ | refine wp_skip ?_ | refine wp_block ?_
    refine' region_ty 13 mixed (by kernel_rfl) hF ?_ ?_
    rotate_left
    · simp only [List.take_succ_cons, List.take_zero]
      repeat (first | exact Line.nil | ((refine' Line.cons rfl (.run rfl rfl ?_) ?_); (any_goals (first | exact cMove rfl rfl | exact cMul (r := ((k * p : Nat) : Int)) rfl rfl rfl ⟨by rw [Int.natCast_mul], by omega, by omega⟩ | exact cLoadSum rfl (.t rfl) Tryz.underlying77 sizeR | exact cCall2 rfl rfl rfl hW | exact cConvR (r := (p : Int)) rfl rfl Tryz.underlying3 Tryz.underlying22 (by rw [IntKind.wrap_u64]; omega) | exact cRemU (n := p) (r := M) rfl rfl rfl (by omega) hM | exact cConvR (r := (M : Int)) rfl rfl Tryz.underlying22 Tryz.underlying3 (IntWalk.i64_in _ (by omega)) | exact cAdd (r := ((k * p + M : Nat) : Int)) rfl rfl rfl ⟨by rw [Int.natCast_add], by omega, by omega⟩ | exact cBuildV (vs := [ivn (k * p + M)]) rfl (parts1v rfl rfl) Tryz.underlying23 infoInt rfl (by simp [Value.cells, ivn]) (by decide) (by simp [maxLen]))); rotate_left))
    intro a w16 hF hb hN
    have hBs := hB.size
    replace hB := hB.trans (hb.mono hB.size)
    simp only [List.take_succ_cons, List.take_zero, List.drop_succ_cons, List.drop_zero] at hF hN ⊢
    dsimp only [ext, Option.getD] at hF
    replace hseg := hseg.below hb
    refine tlAppend (Δ := [(9, Ty.at_ 77 Y.enc), (11, Ty.ex (.int .i64 (p : Int))), (12, Ty.ex (.int .i64 (k : Int)))]) (n := k) (m := 1) (news := [ivn (k * p + M)]) hF rfl rfl rfl rfl Tryz.underlying23 infoInt rfl rfl hseg (.t rfl) sl_news rfl (by simp [ivn, Value.oneCell']) (by simp [maxLen]; omega) (by omega) (hF.keep [9, 11, 12]) rfl ?_
    intro a w17 u' S' hF hseg' hk14 hS'
    have hbS : ∀ y ∈ S', w.heap.size ≤ y := own_next hB hS hS'
    replace hB := below_own hB hk14 hS
    rw [hnx] at hseg'
    refine' tlOp hF rfl rfl rfl ?_ ?_
    rotate_left
    · exact cAssign rfl rfl
    intro a w18 hF hb
    have hBs := hB.size
    replace hB := hB.trans (hb.mono hB.size)
    try (refine wpList_nil ?_)
    repeat with_reducible first | refine nThen ?_ | refine nBlk ?_
    replace hseg' := hseg'.below hb
    refine' reg_all hF ?_ mixed (by kernel_rfl) ?_
    rotate_left
    · repeat (first | exact Line.nil | ((refine' Line.cons rfl (.run rfl rfl ?_) ?_); (any_goals (first | exact cMove rfl rfl | exact cAssign rfl rfl | exact cAdd (r := ((k + 1 : Nat) : Int)) rfl rfl rfl (by omega))); rotate_left))
    intro a w19 hF hb hN
    have hBs := hB.size
    replace hB := hB.trans (hb.mono hB.size)
    dsimp only [ext, Option.getD] at hF
    repeat with_reducible refine nThen ?_
    exact ⟨m - 1, by omega, k + 1, u', S', by omega, hF.keep [9, 11, 10, 12], hB, hseg'.below hb, hbS⟩
  have hge : ¬ k < 3 := by have := of_decide_eq_false hge; omega
  obtain rfl : k = 3 := by omega
  repeat with_reducible first | refine wp_seq ?_ | refine nThen ?_ | refine wp_exit ?_ | refine xThen ?_ | refine xHere ?_
  refine' reg_all hF ?_ mixed (by kernel_rfl) ?_
  rotate_left
  · repeat (first | exact Line.nil | ((refine' Line.cons rfl (.run rfl rfl ?_) ?_); (any_goals (first | exact cMove rfl rfl | exact cAssign rfl rfl)); rotate_left))
  intro a w16 hF hb hN
  have hBs := hB.size
  replace hB := hB.trans (hb.mono hB.size)
  dsimp only [ext, Option.getD] at hF
  repeat with_reducible first | refine nThen ?_ | refine wp_ret ?_
  refine ret1 hF rfl rfl fun z hz => ?_
  have hz : z = u := hz
  subst hz
  exact ⟨z, rfl, (hseg.below hb).sl, hB⟩
end Go.Proofs.YtmlbkcpmgcjblaaGreat

/- Layer 15 by types: the document's Minus, Put. -/
namespace Go.Proofs.YtmlbkcpmgcjblaaGreat
open Go.RowKit

/-- A table whose row is of the region's own. -/
def OTy.tab (w0 : World) (e : TypeId) (seed : Nat) (L : List Cl) : OTy := ⟨Ty.tabO w0 e seed L, fun w v S => ∃ s, v = .agg #[.int .u64 (seed : Int), s] ∧ Seg w e 65 s L.length (flatC L) S ∧ ∀ y ∈ S, w0.heap.size ≤ y, fun ⟨s, h1, h2, h3⟩ => ⟨s, h1, _, h2, h3⟩, fun ⟨s, h1, h2, h3⟩ k hd => ⟨s, h1, h2.keeps k hd, h3⟩, fun ⟨_, _, h2, _⟩ b hb => h2.lt b hb⟩
theorem tkBuildTab {P : Program} {w0 : World} {Γ : Ctx} {o : Oper} {t e : TypeId} {x : Operand} {s : Nat} {seed : Nat} {L : List Cl} (ho : o.op = .build t #[(0, x), (1, .tmp s)]) (hx : OpT Γ x (Ty.ex (.int .u64 (seed : Int)))) (hr : ∀ (s : Value), (∃ A l c, s = .slice A l c) → ∀ w : World, (Instr.build t #[(0, .int .u64 (seed : Int)), (1, s)]).run P w = .ok (.agg #[.int .u64 (seed : Int), s]) w) : OpTk P w0 Γ o (OTy.seg w0 e 65 L.length (flatC L)) (OTy.tab w0 e seed L) s := fun a w S0 K Q hb hs ⟨v, hv1, hv2, hv3⟩ hK => by
  obtain ⟨u, h1, h2⟩ := sees_of hs x _ (by simp [ho, Op.operands]) hx
  have h2 : u = .int .u64 (seed : Int) := h2
  subst h2
  have ev : a.eval (.tmp s) = v := by simp [Act.eval, Array.getD_eq_getD_getElem?, hv1]
  have h : (execOp a.eval o).run P w = .ok (.value (.agg #[.int .u64 (seed : Int), v])) w := by
    unfold execOp
    simp only [ho]
    have e1 : ((#[(0, x), (1, .tmp s)] : Array (Nat × Operand)).map fun (i, x) => (i, a.eval x)) = #[(0, .int .u64 (seed : Int)), (1, v)] := by simp [h1, ev]
    rw [e1, Sem.run_bind, hr v (seg_isA hv2) w]
    rfl
  unfold Oper.wp
  rw [h]
  exact hK _ w S0 ⟨v, rfl, hv2, hv3⟩ (fun b hb => .inl hb) (Keeps.refl _ _)
theorem tkBuildTabE {P : Program} {w0 : World} {Γ : Ctx} {o : Oper} {t e : TypeId} {x : Operand} {s : Nat} {seed : Nat} {L : List Cl} (ho : o.op = .build t #[(0, x), (1, .tmp s)]) (hx : OpT Γ x (Ty.ex (.int .u64 (seed : Int)))) (hr : ∀ (s : Value), (∃ A l c, s = .slice A l c) → ∀ w : World, (Instr.build t #[(0, .int .u64 (seed : Int)), (1, s)]).run P w = .ok (.agg #[.int .u64 (seed : Int), s]) w) : OpTk P w0 Γ o (OTy.seg w0 e 65 (0 + L.length) ([] ++ flatC L)) (OTy.tab w0 e seed L) s := by
  rw [Nat.zero_add, List.nil_append]
  exact tkBuildTab ho hx hr
theorem at_split {w : World} {e : TypeId} {a b v : Value} (h : (Ty.at_ e [a, b]).p w v) : ∃ g o, v = .pointer (some ⟨g, o, none⟩) ∧ (Ty.at_ e [a, b]).p w (.pointer (some ⟨g, o + 0, none⟩)) ∧ (Ty.at_ e [b]).p w (.pointer (some ⟨g, o + 1, none⟩)) := by
  obtain ⟨g, o, cs, fr, rfl, h2, h3⟩ := h
  refine ⟨g, o, rfl, ⟨g, o, cs, fr, rfl, h2, h3⟩, ⟨g, o + 1, cs, fr, rfl, h2, fun j u hu => ?_⟩⟩
  have := h3 (j + 1) u (by simpa using hu)
  rw [show o + 1 + j = o + (j + 1) by omega]
  exact this
set_option maxRecDepth 100000 in
set_option maxHeartbeats 2000000 in
theorem rput_ty (seed : Nat) (L : List Cl) (x : Sm) (n : Int) (hL : L.length ≤ 1000000) (hsd : seed < 18446744073709551616) : FnR3 Tryz.prog 37 (Ty.tab 79 seed L) (Ty.ex (.agg (u8s x.l))) (Ty.ex (.int .i64 n)) (fun w => Ty.tabO w 79 seed (tput seed L x n)) := by
  refine ⟨fun args w => by kernel_rfl, fun w v u q ⟨s, hv, hs⟩ hu hq => ?_⟩
  subst hv
  let TL := Ty.cls 79 L
  have l0 := flatC_len L
  refine enter_ty 49 [Ty.ex (.agg #[.int .u64 (seed : Int), s]), Ty.ex (.agg (u8s x.l)), Ty.ex (.int .i64 n)] Tryz.func37 rfl (by kernel_rfl) ⟨rfl, hu, hq, trivial⟩ fun a hF => ?_
  have hB := Below.refl w.heap.size w
  repeat with_reducible refine wp_seq ?_
  refine' reg_all hF ?_ mixed (by kernel_rfl) ?_
  rotate_left
  · repeat (first
        | exact Line.nil
        | (refine' Line.cons rfl (.new rfl rfl (run_alloc_i infoT83) rfl) ?_; rotate_left)
        | ((refine' Line.cons rfl (.run rfl rfl ?_) ?_)
           any_goals (first | exact cBoxTab rfl rfl | exact cBoxSum rfl rfl)
           rotate_left))
  intro a w1 hF hb hN
  have hBs := hB.size
  replace hB := hB.trans (hb.mono hB.size)
  dsimp only [ext, Option.getD] at hF
  repeat with_reducible first | refine wp_seq ?_ | refine nThen ?_
  obtain ⟨z, ⟨g6, rfl, hg6, hb6⟩, hF⟩ := hF.open (s := 6) rfl
  have hg6 : w.heap.size ≤ g6 := hg6
  obtain ⟨p3, hp3, hF3⟩ := hF.open (s := 3) rfl
  obtain ⟨g3, o3, ep3, hpS, hpL⟩ := at_split hp3
  rw [ep3] at hF3
  replace hF := hF3
  have hs1 := TL.below hs hB
  have hB0 := hB
  have hw1 := hB.size
  have hlt6 := hb6.lt
  replace hB := Below.refl w1.heap.size w1
  refine' region_own 8 [(5, 12), (6, 15)] mixed (by kernel_rfl) hF ?_ ?_
  rotate_left
  · simp only [List.take_succ_cons, List.take_zero]
    repeat (first
        | exact LineO.nil
        | (refine' LineO.cons rfl rfl (.no rfl rfl rfl rfl rfl) ?_; rotate_left)
        | ((first | refine' LineO.cons rfl rfl (.run rfl ?_) ?_ | refine' LineO.cons rfl rfl (.yes rfl rfl rfl ?_) ?_)
           any_goals (first | exact .ex (cFieldExE rfl rfl Tryz.underlying44 rfl size_u64) | exact .ex (cLoadU64 rfl (.l rfl hpS)) | exact oBuild0 rfl Tryz.underlying42 infoC49 | exact .ex (cRowOf83 rfl (.l rfl hpL)) | exact oAlloc rfl (run_alloc_i infoT83))
           rotate_left)
        | ((first | refine' LineO.take rfl rfl rfl (.run rfl ?_) ?_ | refine' LineO.take rfl rfl rfl (.yes rfl rfl rfl ?_) ?_)
           any_goals (first | exact tkAppend (m := L.length) (news := flatC L) rfl Tryz.underlying42 infoC49 zero65_cells (.l rfl hs1) sl_news l0 flatC_one' (by simp [maxLen]; omega) (by omega) | exact tkBuildTabE (L := L) rfl rfl (fun s hs w => buildT83 _ hs w))
           rotate_left))
  intro a w2 hF hb hN
  have hBs := hb.size
  replace hB := hB.trans (hb.mono hB.size)
  simp only [List.take_succ_cons, List.take_zero, List.drop_succ_cons, List.drop_zero] at hF hN ⊢
  dsimp only [hideT, List.foldr, extO, Option.getD, OTy.ex, OTy.seg, OTy.slo, OTy.var, OTy.tab] at hF
  obtain ⟨F, hown, hdis⟩ := hN
  obtain ⟨_, k16, ⟨s16, rfl, hsg, hS⟩, hw16⟩ := hown 6 _ 16 _ rfl rfl rfl (by simp)
  obtain ⟨_, k7, ⟨g7, rfl, hF7, hg7, hb7⟩, hw7⟩ := hown 7 _ 7 _ rfl rfl rfl (by simp)
  generalize F 6 = S at *
  replace hF := (hF.letter k7).letter k16
  clear hown hdis k7 k16 hw16 hw7 hF7
  have hx4 := hF.get (s := 4) rfl
  obtain ⟨p4, hp4, hF⟩ := hF.open (s := 4) rfl
  refine tlStoreV (Δ := [(2, Ty.ex q), (4, Ty.ex p4), (6, Ty.ex (.pointer (some ⟨g6, 0, none⟩))), (7, Ty.ex (.pointer (some ⟨g7, 0, none⟩))), (3, Ty.ex (.pointer (some ⟨g3, o3, none⟩)))]) hF rfl rfl rfl rfl (hF.getEx (s := 16) rfl) hb7 rfl sizeT83 (sl_one hsg.sl _) ?_ rfl ?_
  · have hq' : q = .int .i64 n := hq
    rw [hq']
    exact hF.keep [2, 4, 6, 7, 3]
  intro w3 hF hb7' hkx
  refine wpList_nil ?_
  replace hsg := hsg.keeps hkx (seg_far hsg hb7 (by decide))
  have hp4 : (Ty.at_ 77 x.enc).p w3 p4 := (Ty.at_ 77 x.enc).far hp4 hkx hb7 rfl
  replace hB := below_own hB hkx (by intro y hy; simp only [List.mem_singleton] at hy; omega)
  replace hb7 : Blk w3 g7 44 #[.int .u64 (seed : Int), s16] := hb7'
  clear hb7' hkx hx4
  have hpS3 := (Ty.at_ 44 [.int .u64 (seed : Int), s]).below hpS hB
  have hpL3 := (Ty.at_ 44 [s]).below hpL hB
  have hs3 := TL.below hs1 hB
  have hPp := rplaces_ty seed (L.length : Int) x hsd
  have hPl3 := placesN_len3 seed (L.length : Int) x
  have hPd : ∀ j, j < (placesN seed (L.length : Int) x).length → (placesN seed (L.length : Int) x).getD j 0 < L.length := fun j hj => places_lt seed L.length x _ (getD_mem hj)
  have hput : tput seed L x n = (placesN seed (L.length : Int) x).foldl (fun L i => tputAt L i x n) L := rfl
  generalize placesN seed (L.length : Int) x = PL at *
  repeat with_reducible first | refine wp_seq ?_ | refine nThen ?_
  refine' reg_all hF ?_ mixed (by kernel_rfl) ?_
  rotate_left
  · repeat (first | exact Line.nil | ((refine' Line.cons rfl (.run rfl rfl ?_) ?_); (any_goals (first | exact cAssign rfl rfl | exact cFieldExE rfl rfl Tryz.underlying44 rfl size_u64 | exact cLoadU64 rfl (.l rfl hpS3) | exact cRowOf83 rfl (.l rfl hpL3) | exact cLenH rfl (.l rfl hs3) (Ty.sl_isSl _ _ _) Tryz.underlying42 | exact cLoadSum rfl (.l rfl hp4) Tryz.underlying77 sizeR | exact cCall3 rfl rfl rfl rfl hPp)); rotate_left))
  intro a w4 hF hb hN
  have hBs := hB.size
  replace hB := hB.trans (hb.mono hB.size)
  dsimp only [ext, Option.getD] at hF
  repeat with_reducible first | refine wp_seq ?_ | refine nThen ?_
  replace hb7 := hb7.below hb
  replace hsg := hsg.below hb
  replace hp4 : (Ty.at_ 77 x.enc).p w4 p4 := (Ty.at_ 77 x.enc).below hp4 hb
  obtain ⟨v8, hv8, hF⟩ := hF.open (s := 8) rfl
  refine' reg_all hF ?_ mixed (by kernel_rfl) ?_
  rotate_left
  · repeat (first | exact Line.nil | ((refine' Line.cons rfl (.run rfl rfl ?_) ?_); (any_goals exact cAssign rfl rfl); rotate_left))
  intro a w5 hF hb hN
  have hBs := hB.size
  replace hB := hB.trans (hb.mono hB.size)
  dsimp only [ext, Option.getD] at hF
  repeat with_reducible first | refine nThen ?_ | refine wp_block ?_
  replace hb7 := hb7.below hb
  replace hsg := hsg.below hb
  replace hp4 : (Ty.at_ 77 x.enc).p w5 p4 := (Ty.at_ 77 x.enc).below hp4 hb
  replace hv8 : (Ty.sl 3 PL.length (PL.map ivn)).p w5 v8 := (Ty.sl 3 PL.length (PL.map ivn)).below hv8 hb
  have hq' : q = .int .i64 n := hq
  rw [hq'] at hF
  refine loop_ty (fun m a wr => ∃ j : Nat, j + m = PL.length ∧ Fr 49 [(2, Ty.ex (.int .i64 n)), (4, Ty.ex p4), (6, Ty.ex (.pointer (some ⟨g6, 0, none⟩))), (7, Ty.ex (.pointer (some ⟨g7, 0, none⟩))), (8, Ty.ex v8), (9, Ty.ex (.int .i64 (j : Int)))] a wr ∧ Below w1.heap.size w1 wr ∧ Blk wr g7 44 #[.int .u64 (seed : Int), s16] ∧ Seg wr 79 65 s16 L.length (flatC ((PL.take j).foldl (fun L i => tputAt L i x n) L)) S ∧ (Ty.at_ 77 x.enc).p wr p4 ∧ (Ty.sl 3 PL.length (PL.map ivn)).p wr v8) PL.length ?_ ?_
  · exact ⟨0, by omega, hF.keep [2, 4, 6, 7, 8, 9], hB, hb7, hsg, hp4, hv8⟩
  clear hF hB hb7 hsg hp4 hv8 hpS3 hpL3 hs3
  rintro m a wr ⟨j, hj, hF, hB, hb7, hsg, hp4, hv8⟩
  repeat with_reducible refine wp_seq ?_
  refine' reg_all hF ?_ mixed (by kernel_rfl) ?_
  rotate_left
  · repeat (first | exact Line.nil | ((refine' Line.cons rfl (.run rfl rfl ?_) ?_); (any_goals (first | exact cMove rfl rfl | exact cLenH rfl (.l rfl hv8) (Ty.sl_isSl _ _ _) Tryz.underlying23 | exact cLss rfl rfl rfl)); rotate_left))
  intro a w6 hF hb hN
  have hBs := hB.size
  replace hB := hB.trans (hb.mono hB.size)
  dsimp only [ext, Option.getD] at hF
  repeat with_reducible refine nThen ?_
  replace hb7 := hb7.below hb
  replace hsg := hsg.below hb
  replace hp4 : (Ty.at_ 77 x.enc).p w6 p4 := (Ty.at_ 77 x.enc).below hp4 hb
  replace hv8 : (Ty.sl 3 PL.length (PL.map ivn)).p w6 v8 := (Ty.sl 3 PL.length (PL.map ivn)).below hv8 hb
  refine cond_ty hF rfl (fun hlt2 => ?_) (fun hge2 => ?_)
  · have hlt2 : j < PL.length := by have := of_decide_eq_true hlt2; omega
    have hi := hPd j hlt2
    have hfs := fold_snoc PL hlt2 L x n
    have hd1 := ivn_drop hlt2
    have hFl : ((PL.take j).foldl (fun L i => tputAt L i x n) L).length = L.length := by rw [foldAt_len]
    generalize (PL.take j).foldl (fun L i => tputAt L i x n) L = R at *
    generalize PL.getD j 0 = i at *
    obtain ⟨g, off, cap, eu, eS, hsl⟩ : ∃ g off cap, s16 = .slice (some ⟨g, off, none⟩) L.length cap ∧ S = [g] ∧ SegL w6 79 65 g off L.length cap (flatC R) := by
      rcases hsg.cases with ⟨_, h0, _⟩ | h
      · omega
      · exact h
    have hgw : w1.heap.size ≤ g := by
      have := hS g (by rw [eS]; simp)
      omega
    have hcell := cell_at hsl (i := i) (by omega)
    have h7 : (Ty.at_ 44 [.int .u64 (seed : Int), .slice (some ⟨g, off, none⟩) L.length cap]).p w6 (.pointer (some ⟨g7, 0, none⟩)) := by rw [← eu]; exact blk_at hb7
    repeat with_reducible first | refine wp_seq ?_ | refine nThen ?_ | refine wp_skip ?_ | refine wp_block ?_
    refine' region_ty 18 mixed (by kernel_rfl) hF ?_ ?_
    rotate_left
    · simp only [List.take_succ_cons, List.take_zero]
      repeat (first | exact Line.nil | ((refine' Line.cons rfl (.run rfl rfl ?_) ?_); (any_goals (first | exact cMove rfl rfl | exact cFldL83 rfl (.l rfl h7) | exact cRowOf83 rfl (.t rfl) | exact cIndexEx (k := i) (sz := 65) rfl rfl rfl Tryz.underlying42 info49 hi | exact cIndexS (k := j) (sz := 1) rfl (.l rfl hv8) rfl Tryz.underlying23 sizeI hlt2 (by rw [List.length_map]; omega) | exact cLoad1 (u := ivn i) rfl (Has.c (.t rfl) (fun W v h => by rw [Nat.mul_one, hd1] at h; exact h)) (pts_at _ _) Tryz.underlying3 rfl | exact cLoadCl49 rfl (.l rfl hcell) | exact cLoadSum rfl (.l rfl hp4) Tryz.underlying77 sizeR | exact cCall3 rfl rfl rfl rfl (putcell_ty _ _ _))); rotate_left))
    intro a w7 hF hb hN
    have hBs := hB.size
    replace hB := hB.trans (hb.mono hB.size)
    simp only [List.take_succ_cons, List.take_zero, List.drop_succ_cons, List.drop_zero] at hF hN ⊢
    dsimp only [ext, Option.getD] at hF
    replace hb7 := hb7.below hb
    replace hsl := hsl.below hb
    replace hp4 : (Ty.at_ 77 x.enc).p w7 p4 := (Ty.at_ 77 x.enc).below hp4 hb
    replace hv8 : (Ty.sl 3 PL.length (PL.map ivn)).p w7 v8 := (Ty.sl 3 PL.length (PL.map ivn)).below hv8 hb
    have hn7 := segl_far hsl hb7 (by decide)
    obtain ⟨csb, hbl⟩ : ∃ cs, Blk w7 g 79 cs := by
      obtain ⟨_, _, _, cs, h, _⟩ := hsl
      exact ⟨cs, h⟩
    refine tlStoreAt (Δ := [(2, Ty.ex (.int .i64 n)), (4, Ty.ex p4), (6, Ty.ex (.pointer (some ⟨g6, 0, none⟩))), (7, Ty.ex (.pointer (some ⟨g7, 0, none⟩))), (8, Ty.ex v8), (9, Ty.ex (.int .i64 (j : Int)))]) (k := i * 65) hF rfl rfl rfl rfl rfl hsl (by rw [Cl.size]; omega) (by rw [Cl.size]; exact info49) (Cl.one _) (hF.keep [2, 4, 6, 7, 8, 9]) rfl ?_
    intro w8 hF hsl hk8
    refine wpList_nil ?_
    replace hB := below_own hB hk8 (by intro y hy; simp only [List.mem_singleton] at hy; omega)
    replace hb7 := hb7.keeps hk8 (by simpa using hn7)
    replace hp4 : (Ty.at_ 77 x.enc).p w8 p4 := (Ty.at_ 77 x.enc).far hp4 hk8 hbl rfl
    replace hv8 : (Ty.sl 3 PL.length (PL.map ivn)).p w8 v8 := (Ty.sl 3 PL.length (PL.map ivn)).far hv8 hk8 hbl rfl
    rw [show ((R.getD i default).put x n).a.toList = ((R.getD i default).put x n).enc from rfl, over_flatC _ _ (by omega)] at hsl
    rw [show R.set i ((R.getD i default).put x n) = tputAt R i x n from rfl, ← hfs] at hsl
    replace hsg := hsl.seg
    rw [← eu, ← eS] at hsg
    repeat with_reducible first | refine nThen ?_ | refine nBlk ?_
    refine' reg_all hF ?_ mixed (by kernel_rfl) ?_
    rotate_left
    · repeat (first | exact Line.nil | ((refine' Line.cons rfl (.run rfl rfl ?_) ?_); (any_goals (first | exact cMove rfl rfl | exact cAssign rfl rfl | exact cAdd (r := ((j + 1 : Nat) : Int)) rfl rfl rfl (by omega))); rotate_left))
    intro a w9 hF hb hN
    have hBs := hB.size
    replace hB := hB.trans (hb.mono hB.size)
    dsimp only [ext, Option.getD] at hF
    repeat with_reducible refine nThen ?_
    exact ⟨m - 1, by omega, j + 1, by omega, hF.keep [2, 4, 6, 7, 8, 9], hB, hb7.below hb, hsg.below hb, (Ty.at_ 77 x.enc).below hp4 hb, (Ty.sl 3 PL.length (PL.map ivn)).below hv8 hb⟩
  have hge2 : ¬ j < PL.length := by have := of_decide_eq_false hge2; omega
  obtain rfl : j = PL.length := by omega
  rw [List.take_length, ← hput] at hsg
  have h7 : (Ty.at_ 44 [.int .u64 (seed : Int), s16]).p w6 (.pointer (some ⟨g7, 0, none⟩)) := blk_at hb7
  replace hb6 : Blk w6 g6 44 #[.int .u64 0, .slice none 0 0] := hb6.below hB
  replace hB := hB0.trans (hB.mono hw1)
  repeat with_reducible first | refine wp_seq ?_ | refine nThen ?_ | refine wp_exit ?_ | refine xThen ?_ | refine xHere ?_
  refine wp_region_lit ?_
  refine' tlOp hF rfl rfl rfl ?_ ?_
  rotate_left
  · exact cLoadT83 rfl (.l rfl h7)
  intro a w7 hF hb
  have hBs := hB.size
  replace hB := hB.trans (hb.mono hB.size)
  try (refine wpList_nil ?_)
  replace hb6 := hb6.below hb
  replace hsg := hsg.below hb
  refine tlStoreV (Δ := [(6, Ty.ex (.pointer (some ⟨g6, 0, none⟩)))]) hF rfl rfl rfl rfl (hF.getEx (s := 48) rfl) hb6 rfl sizeT83 (sl_one hsg.sl _) (hF.keep [6]) rfl ?_
  intro w8 hF hb6' hkx
  refine wpList_nil ?_
  replace hB := below_own hB hkx (by intro y hy; simp only [List.mem_singleton] at hy; omega)
  replace hsg := hsg.keeps hkx (seg_far hsg hb6 (by decide))
  repeat with_reducible first | refine nThen ?_ | refine wp_ret ?_
  refine retCell hF rfl rfl hb6' Tryz.underlying44 rfl sizeT83 ?_
  refine ⟨_, rfl, ⟨s16, rfl, S, ?_, fun y hy => Nat.le_trans hw1 (hS y hy)⟩, hB⟩
  rw [tput_len]
  exact hsg
end Go.Proofs.YtmlbkcpmgcjblaaGreat

/- Layer 15 by types: the document's Minus. -/
namespace Go.Proofs.YtmlbkcpmgcjblaaGreat
open Go.RowKit

theorem tminus_snoc {A B : List Cl} (h : A.length = B.length) {i : Nat} (hi : i < A.length) : (tminus A B).take (i + 1) = (tminus A B).take i ++ [(A.getD i default).minus (B.getD i default)] := by
  rw [List.take_succ_eq_append_getElem (by rw [tminus_len h]; exact hi)]
  congr 2
  have := tminus_get h hi
  simpa [List.getD, List.getElem?_eq_getElem (show i < (tminus A B).length by rw [tminus_len h]; exact hi)] using this
set_option maxRecDepth 100000 in
set_option maxHeartbeats 2000000 in
theorem r13minus_ty (sa sb : Nat) (A B : List Cl) : FnR2 Tryz.prog 46 (Ty.tab 79 sa A) (Ty.tab 79 sb B) (fun w => Ty.tabE w 79 (minS sa sb A B) (minL sa sb A B) (minE sa sb A B)) := by
  refine ⟨fun args w => by kernel_rfl, fun w v u ⟨s, hv, hs⟩ ⟨s2, hu, hs2⟩ => ?_⟩
  subst hv hu
  have hG := goodCells_ty (A.length : Int)
  refine enter_ty 57 [Ty.ex (.agg #[.int .u64 (sa : Int), s]), Ty.ex (.agg #[.int .u64 (sb : Int), s2])] Tryz.func46 rfl (by kernel_rfl) ⟨rfl, rfl, trivial⟩ fun a hF => ?_
  have hB := Below.refl w.heap.size w
  let TA := Ty.cls 79 A
  let TB := Ty.cls 79 B
  repeat with_reducible refine wp_seq ?_
  refine' reg_all hF ?_ mixed (by kernel_rfl) ?_
  rotate_left
  · repeat (first
        | exact Line.nil
        | (refine' Line.cons rfl (.new rfl rfl (run_alloc_i infoT83) rfl) ?_; rotate_left)
        | ((refine' Line.cons rfl (.run rfl rfl ?_) ?_)
           any_goals (first | exact cAssign rfl rfl | exact cBoxTab rfl rfl)
           rotate_left))
  intro a w1 hF hb hN
  have hBs := hB.size
  replace hB := hB.trans (hb.mono hB.size)
  dsimp only [ext, Option.getD] at hF
  repeat with_reducible first | refine wp_seq ?_ | refine nThen ?_
  obtain ⟨z, ⟨g4, rfl, hg4, hb4⟩, hF⟩ := hF.open (s := 4) rfl
  have hs1 := TA.below hs hB
  have hs21 := TB.below hs2 hB
  refine wp_mono (Q := fun e a w' => e = .normal ∧ Fr 57 [(2, Ty.at_ 44 [.int .u64 (sa : Int), s]), (3, Ty.at_ 44 [.int .u64 (sb : Int), s2]), (4, Ty.ex (.pointer (some ⟨g4, 0, none⟩))), (28, Ty.ex (.bool (!minOk sa sb A B)))] a w' ∧ Below w.heap.size w w' ∧ Blk w' g4 44 zeroT) ?_ ?_
  · unfold minOk
    by_cases h1 : goodN (A.length : Int) = true
    · rw [h1] at hG
      by_cases h2 : A.length = B.length
      · have e2 : (!decide ((A.length : Int) = (B.length : Int))) = false := by rw [decide_eq_true (by omega)]; rfl
        have e3 : (!decide ((sa : Int) = (sb : Int))) = !(goodN (A.length : Int) && (decide (A.length = B.length) && decide (sa = sb))) := by
          rw [h1, decide_eq_true h2, Bool.true_and, Bool.true_and, show decide ((sa : Int) = (sb : Int)) = decide (sa = sb) from decide_eq_decide.2 (by omega)]
        refine' reg_all hF ?_ mixed (by kernel_rfl) ?_
        rotate_left
        · repeat (first | exact Line.nil | ((first | refine' Line.cons rfl (.run rfl rfl ?_) ?_ | refine' Line.cons rfl (.yes rfl rfl rfl rfl ?_) ?_); (any_goals (first | exact cMove rfl rfl | exact cNot rfl rfl | exact cCall1 rfl rfl hG | exact cFldL83 rfl (.t rfl) | exact cRowOf83 rfl (.t rfl) | exact cLenH rfl (.l rfl hs1) (Ty.sl_isSl _ _ _) Tryz.underlying42 | exact cLenH rfl (.l rfl hs21) (Ty.sl_isSl _ _ _) Tryz.underlying42 | exact cFldS83 rfl (.t rfl) | exact cLoadU64 rfl (.t rfl) | exact OpOk.b (cNeq rfl rfl rfl) e2 | exact OpOk.b (cNeq rfl rfl rfl) e3 | exact cPickF rfl rfl rfl)); rotate_left))
        intro a w2 hF hb hN
        have hBs := hB.size
        replace hB := hB.trans (hb.mono hB.size)
        dsimp only [ext, Option.getD] at hF
        exact ⟨rfl, hF.keep [2, 3, 4, 28], hB, hb4.below hb⟩
      · have e2 : (!decide ((A.length : Int) = (B.length : Int))) = true := by rw [decide_eq_false (by omega)]; rfl
        have e3 : (!(goodN (A.length : Int) && (decide (A.length = B.length) && decide (sa = sb)))) = true := by rw [decide_eq_false h2, Bool.false_and, Bool.and_false]; rfl
        rw [e3]
        refine' reg_all hF ?_ mixed (by kernel_rfl) ?_
        rotate_left
        · repeat (first | exact Line.nil | (refine' Line.cons rfl (.no rfl rfl rfl rfl rfl rfl) ?_; rotate_left) | ((first | refine' Line.cons rfl (.run rfl rfl ?_) ?_ | refine' Line.cons rfl (.yes rfl rfl rfl rfl ?_) ?_); (any_goals (first | exact cMove rfl rfl | exact cNot rfl rfl | exact cCall1 rfl rfl hG | exact cFldL83 rfl (.t rfl) | exact cRowOf83 rfl (.t rfl) | exact cLenH rfl (.l rfl hs1) (Ty.sl_isSl _ _ _) Tryz.underlying42 | exact cLenH rfl (.l rfl hs21) (Ty.sl_isSl _ _ _) Tryz.underlying42 | exact OpOk.b (cNeq rfl rfl rfl) e2 | exact cPickT rfl rfl rfl | exact cPickF rfl rfl rfl)); rotate_left))
        intro a w2 hF hb hN
        have hBs := hB.size
        replace hB := hB.trans (hb.mono hB.size)
        dsimp only [ext, Option.getD] at hF
        exact ⟨rfl, hF.keep [2, 3, 4, 28], hB, hb4.below hb⟩
    · have h1 : goodN (A.length : Int) = false := by simpa using h1
      rw [h1] at hG ⊢
      refine' reg_all hF ?_ mixed (by kernel_rfl) ?_
      rotate_left
      · repeat (first | exact Line.nil | (refine' Line.cons rfl (.no rfl rfl rfl rfl rfl rfl) ?_; rotate_left) | ((refine' Line.cons rfl (.run rfl rfl ?_) ?_); (any_goals (first | exact cMove rfl rfl | exact cNot rfl rfl | exact cCall1 rfl rfl hG | exact cFldL83 rfl (.t rfl) | exact cRowOf83 rfl (.t rfl) | exact cLenH rfl (.l rfl hs1) (Ty.sl_isSl _ _ _) Tryz.underlying42 | exact cPickT rfl rfl rfl)); rotate_left))
      intro a w2 hF hb hN
      have hBs := hB.size
      replace hB := hB.trans (hb.mono hB.size)
      dsimp only [ext, Option.getD] at hF
      exact ⟨rfl, hF.keep [2, 3, 4, 28], hB, hb4.below hb⟩
  clear hF hB hb4 hs1 hs21
  rintro e a w2 ⟨rfl, hF, hB, hb4⟩
  repeat with_reducible refine nThen ?_
  by_cases hok : minOk sa sb A B = true
  rotate_left
  · have hok : minOk sa sb A B = false := by simpa using hok
    have e1 : minS sa sb A B = 0 := by unfold minS; rw [hok]; rfl
    have e2 : minL sa sb A B = [] := by unfold minL; rw [hok]; rfl
    have e3 : minE sa sb A B = .int .i64 1 := by unfold minE; rw [hok]; rfl
    rw [hok] at hF
    rw [e1, e2, e3]
    refine cond_t hF rfl ?_
    repeat with_reducible refine wp_seq ?_
    refine' region_ty 1 mixed (by kernel_rfl) hF ?_ ?_
    rotate_left
    · simp only [List.take_succ_cons, List.take_zero]
      repeat (first | exact Line.nil | ((refine' Line.cons rfl (.run rfl rfl ?_) ?_); (any_goals exact cBuildE rfl (fun w => buildT083 w)); rotate_left))
    intro a w3 hF hb hN
    have hBs := hB.size
    replace hB := hB.trans (hb.mono hB.size)
    simp only [List.take_succ_cons, List.take_zero, List.drop_succ_cons, List.drop_zero] at hF hN ⊢
    dsimp only [ext, Option.getD] at hF
    replace hb4 := hb4.below hb
    refine tlStoreV (Δ := [(4, Ty.ex (.pointer (some ⟨g4, 0, none⟩)))]) hF rfl rfl rfl rfl (hF.getEx (s := 29) rfl) hb4 rfl sizeT83 (tabCells 0 _ _ _) (hF.keep [4]) rfl ?_
    intro w4 hF hb4 hkx
    replace hB := below_own hB hkx (by intro y hy; simp only [List.mem_singleton] at hy; omega)
    refine' tlOp hF rfl rfl rfl ?_ ?_
    rotate_left
    · exact cAssign rfl rfl
    intro a w5 hF hb
    have hBs := hB.size
    replace hB := hB.trans (hb.mono hB.size)
    try (refine wpList_nil ?_)
    repeat with_reducible first | refine nThen ?_ | refine wp_ret ?_ | refine rThen ?_
    replace hb4 := hb4.below hb
    refine retCell2 hF rfl rfl rfl hb4 Tryz.underlying44 rfl sizeT83 ?_
    exact ⟨_, rfl, ⟨_, rfl, _, rfl, [], Seg.nil _ _ _, by simp⟩, hB⟩
  have e1 : minS sa sb A B = sa := by unfold minS; rw [hok]; rfl
  have e2 : minL sa sb A B = tminus A B := by unfold minL; rw [hok]; rfl
  have e3 : minE sa sb A B = .int .i64 0 := by unfold minE; rw [hok]; rfl
  rw [hok] at hF
  rw [e1, e2, e3]
  clear e1 e2 e3
  unfold minOk at hok
  simp only [Bool.and_eq_true, decide_eq_true_eq] at hok
  obtain ⟨hgd, hlen, hse⟩ := hok
  subst hse
  obtain ⟨N, hN, hN1, hN2⟩ := goodN_rng hgd
  have hN : A.length = N := by omega
  refine cond_f hF rfl ?_
  repeat with_reducible first | refine wp_seq ?_ | refine nThen ?_ | refine wp_skip ?_
  obtain ⟨p2, hp2, hF⟩ := hF.open (s := 2) rfl
  obtain ⟨p3, hp3, hF⟩ := hF.open (s := 3) rfl
  have hsa := TA.below hs hB
  have hsb := TB.below hs2 hB
  have hw2 := hB.size
  have hlt4 := hb4.lt
  have hB0 := hB
  replace hB := Below.refl w2.heap.size w2
  clear hs hs2 hG
  refine' region_ty 4 mixed (by kernel_rfl) hF ?_ ?_
  rotate_left
  · simp only [List.take_succ_cons, List.take_zero]
    repeat (first
        | exact Line.nil
        | (refine' Line.cons rfl (.new rfl rfl (run_alloc_i infoT83) rfl) ?_; rotate_left)
        | ((refine' Line.cons rfl (.run rfl rfl ?_) ?_)
           any_goals (first | exact cFldS83 rfl (.l rfl hp2) | exact cLoadU64 rfl (.t rfl) | exact cBuildC1 rfl rfl (fun w => buildTs83 _ w))
           rotate_left))
  intro a w3 hF hb hN
  have hBs := hB.size
  replace hB := hB.trans (hb.mono hB.size)
  simp only [List.take_succ_cons, List.take_zero, List.drop_succ_cons, List.drop_zero] at hF hN ⊢
  dsimp only [ext, Option.getD] at hF
  obtain ⟨z, ⟨g6, rfl, hg6, hb6⟩, hF⟩ := hF.open (s := 6) rfl
  have hg6 : w2.heap.size ≤ g6 := hg6
  refine tlStoreV (Δ := [(2, Ty.ex p2), (3, Ty.ex p3), (4, Ty.ex (.pointer (some ⟨g4, 0, none⟩))), (6, Ty.ex (.pointer (some ⟨g6, 0, none⟩)))]) hF rfl rfl rfl rfl (hF.getEx (s := 32) rfl) hb6 rfl sizeT83 (tabCells sa _ _ _) (hF.keep [2, 3, 4, 6]) rfl ?_
  intro w4 hF hb6' hkx
  refine wpList_nil ?_
  replace hB := below_own hB hkx (by intro y hy; simp only [List.mem_singleton] at hy; omega)
  replace hb6 : Blk w4 g6 44 #[.int .u64 (sa : Int), .slice none 0 0] := hb6'
  clear hb6' hkx
  repeat with_reducible first | refine wp_seq ?_ | refine nThen ?_
  refine' reg_all hF ?_ mixed (by kernel_rfl) ?_
  rotate_left
  · repeat (first | exact Line.nil | ((refine' Line.cons rfl (.run rfl rfl ?_) ?_); (any_goals exact cAssign rfl rfl); rotate_left))
  intro a w5 hF hb hN
  have hBs := hB.size
  replace hB := hB.trans (hb.mono hB.size)
  dsimp only [ext, Option.getD] at hF
  repeat with_reducible first | refine nThen ?_ | refine wp_block ?_
  replace hb6 := hb6.below hb
  refine loop_ty (fun m a wr => ∃ (i : Nat) (u : Value) (S : List Nat), i + m = A.length ∧ Fr 57 [(2, Ty.ex p2), (3, Ty.ex p3), (4, Ty.ex (.pointer (some ⟨g4, 0, none⟩))), (6, Ty.ex (.pointer (some ⟨g6, 0, none⟩))), (7, Ty.ex (.int .i64 (i : Int)))] a wr ∧ Below w2.heap.size w2 wr ∧ Blk wr g6 44 #[.int .u64 (sa : Int), u] ∧ Seg wr 79 65 u i (flatC ((tminus A B).take i)) S ∧ ∀ y ∈ S, w2.heap.size ≤ y) A.length ?_ ?_
  · exact ⟨0, _, [], by omega, hF.keep [2, 3, 4, 6, 7], hB, hb6, Seg.nil _ _ _, by simp⟩
  clear hF hB hb6
  rintro m a wr ⟨i, u, S, hi, hF, hB, hb6, hseg, hS⟩
  have hpa := (Ty.at_ 44 [.int .u64 (sa : Int), s]).below hp2 hB
  have hsr := TA.below hsa hB
  repeat with_reducible refine wp_seq ?_
  refine' reg_all hF ?_ mixed (by kernel_rfl) ?_
  rotate_left
  · repeat (first | exact Line.nil | ((refine' Line.cons rfl (.run rfl rfl ?_) ?_); (any_goals (first | exact cMove rfl rfl | exact cFldL83 rfl (.l rfl hpa) | exact cRowOf83 rfl (.t rfl) | exact cLenH rfl (.l rfl hsr) (Ty.sl_isSl _ _ _) Tryz.underlying42 | exact cLss rfl rfl rfl)); rotate_left))
  intro a w6 hF hb hN
  have hBs := hB.size
  replace hB := hB.trans (hb.mono hB.size)
  dsimp only [ext, Option.getD] at hF
  repeat with_reducible refine nThen ?_
  replace hb6 := hb6.below hb
  replace hseg := hseg.below hb
  replace hpa := (Ty.at_ 44 [.int .u64 (sa : Int), s]).below hp2 hB
  have hpb := (Ty.at_ 44 [.int .u64 (sa : Int), s2]).below hp3 hB
  replace hsr := TA.below hsa hB
  have hsr2 := TB.below hsb hB
  have h6 : (Ty.at_ 44 [.int .u64 (sa : Int), u]).p w6 (.pointer (some ⟨g6, 0, none⟩)) := blk_at hb6
  refine cond_ty hF rfl (fun hlt => ?_) (fun hge => ?_)
  · have hlt : i < A.length := by have := of_decide_eq_true hlt; omega
    have hsn := tminus_snoc hlen hlt
    have hC := rminus_ty (A.getD i default) (B.getD i default)
    repeat with_reducible first | refine wp_seq ?_ | refine nThen ?_ | refine wp_skip ?_ | refine wp_block ?_
    refine' region_ty 14 mixed (by kernel_rfl) hF ?_ ?_
    rotate_left
    · simp only [List.take_succ_cons, List.take_zero]
      repeat (first | exact Line.nil | ((refine' Line.cons rfl (.run rfl rfl ?_) ?_); (any_goals (first | exact cMove rfl rfl | exact cFldL83 rfl (.l rfl hpa) | exact cFldL83 rfl (.l rfl hpb) | exact cFldL83 rfl (.l rfl h6) | exact cRowOf83 rfl (.t rfl) | exact cIndexCl (k := i) rfl (.l rfl hsr) rfl Tryz.underlying42 info49 hlt | exact cIndexCl (k := i) rfl (.l rfl hsr2) rfl Tryz.underlying42 info49 (by omega) | exact cLoadCl49 rfl (.t rfl) | exact cCall2 rfl rfl rfl hC | exact cBuildCl1 rfl rfl Tryz.underlying42 infoC49)); rotate_left))
    intro a w7 hF hb hN
    have hBs := hB.size
    replace hB := hB.trans (hb.mono hB.size)
    simp only [List.take_succ_cons, List.take_zero, List.drop_succ_cons, List.drop_zero] at hF hN ⊢
    dsimp only [ext, Option.getD] at hF
    replace hb6 := hb6.below hb
    replace hseg := hseg.below hb
    have hf6 := seg_far hseg hb6 (by decide)
    refine tlAppend (Δ := [(2, Ty.ex p2), (3, Ty.ex p3), (4, Ty.ex (.pointer (some ⟨g4, 0, none⟩))), (6, Ty.ex (.pointer (some ⟨g6, 0, none⟩))), (7, Ty.ex (.int .i64 (i : Int)))]) (n := i) (m := 1) (news := flatC [(A.getD i default).minus (B.getD i default)]) hF rfl rfl rfl rfl Tryz.underlying42 infoC49 zero65_cells rfl hseg (.t rfl) sl_news (flatC_len _) flatC_one' (by simp [maxLen]; omega) (by omega) (hF.keep [2, 3, 4, 6, 7]) rfl ?_
    intro a w8 u' S' hF hseg' hk8 hS'
    replace hb6 := hb6.keeps hk8 (fun hm => hf6 g6 hm (by simp))
    have hbS : ∀ y ∈ S', w2.heap.size ≤ y := own_next hB hS hS'
    replace hB := below_own hB hk8 hS
    rw [← flatC_append, ← hsn] at hseg'
    refine' tlOp hF rfl rfl rfl ?_ ?_
    rotate_left
    · exact cFieldExE rfl rfl Tryz.underlying44 rfl size_row83
    intro a w9 hF hb
    have hBs := hB.size
    replace hB := hB.trans (hb.mono hB.size)
    try (refine wpList_nil ?_)
    replace hb6 := hb6.below hb
    replace hseg' := hseg'.below hb
    have hcu := sl_cells (seg_isA hseg')
    refine tlStoreF (k := 0 + 1) (Δ := [(2, Ty.ex p2), (3, Ty.ex p3), (4, Ty.ex (.pointer (some ⟨g4, 0, none⟩))), (6, Ty.ex (.pointer (some ⟨g6, 0, none⟩))), (7, Ty.ex (.int .i64 (i : Int)))]) hF rfl rfl rfl rfl (hF.getEx (s := 54) rfl) hb6 (by rw [hcu]; exact Nat.le_refl 2) (by rw [hcu]; exact size_row83) (sl_one1 (seg_isA hseg')) (hF.keep [2, 3, 4, 6, 7]) rfl ?_
    intro w10 hF hb6' hk9
    refine wpList_nil ?_
    replace hseg' := hseg'.keeps hk9 (seg_far hseg' hb6 (by decide))
    replace hB := below_own hB hk9 (by intro y hy; simp only [List.mem_singleton] at hy; omega)
    replace hb6 : Blk w10 g6 44 #[.int .u64 (sa : Int), u'] := by
      rw [Nat.zero_add, splice2 _ _ _ hcu] at hb6'
      exact hb6'
    repeat with_reducible first | refine nThen ?_ | refine nBlk ?_
    refine' reg_all hF ?_ mixed (by kernel_rfl) ?_
    rotate_left
    · repeat (first | exact Line.nil | ((refine' Line.cons rfl (.run rfl rfl ?_) ?_); (any_goals (first | exact cMove rfl rfl | exact cAssign rfl rfl | exact cAdd (r := ((i + 1 : Nat) : Int)) rfl rfl rfl (by omega))); rotate_left))
    intro a w11 hF hb hN
    have hBs := hB.size
    replace hB := hB.trans (hb.mono hB.size)
    dsimp only [ext, Option.getD] at hF
    repeat with_reducible refine nThen ?_
    exact ⟨m - 1, by omega, i + 1, u', S', by omega, hF.keep [2, 3, 4, 6, 7], hB, hb6.below hb, hseg'.below hb, hbS⟩
  have hge : ¬ i < A.length := by have := of_decide_eq_false hge; omega
  obtain rfl : i = A.length := by omega
  rw [List.take_of_length_le (by rw [tminus_len hlen]; exact Nat.le_refl _)] at hseg
  replace hb4 : Blk w6 g4 44 zeroT := hb4.below hB
  replace hB := hB0.trans (hB.mono hw2)
  have hg4 : w.heap.size ≤ g4 := hg4
  repeat with_reducible first | refine wp_seq ?_ | refine nThen ?_ | refine wp_exit ?_ | refine xThen ?_ | refine xHere ?_
  refine wp_region_lit ?_
  refine' tlOp hF rfl rfl rfl ?_ ?_
  rotate_left
  · exact cLoadT83 rfl (.l rfl h6)
  intro a w7 hF hb
  have hBs := hB.size
  replace hB := hB.trans (hb.mono hB.size)
  try (refine wpList_nil ?_)
  replace hb4 := hb4.below hb
  replace hseg := hseg.below hb
  refine tlStoreV (Δ := [(4, Ty.ex (.pointer (some ⟨g4, 0, none⟩)))]) hF rfl rfl rfl rfl (hF.getEx (s := 56) rfl) hb4 rfl sizeT83 (sl_one hseg.sl _) (hF.keep [4]) rfl ?_
  intro w8 hF hb4' hkx
  replace hB := below_own hB hkx (by intro y hy; simp only [List.mem_singleton] at hy; omega)
  replace hseg := hseg.keeps hkx (seg_far hseg hb4 (by decide))
  refine' tlOp hF rfl rfl rfl ?_ ?_
  rotate_left
  · exact cAssign rfl rfl
  intro a w9 hF hb
  have hBs := hB.size
  replace hB := hB.trans (hb.mono hB.size)
  try (refine wpList_nil ?_)
  repeat with_reducible first | refine nThen ?_ | refine wp_ret ?_
  refine retCell2 hF rfl rfl rfl (hb4'.below hb) Tryz.underlying44 rfl sizeT83 ?_
  refine ⟨_, rfl, ⟨_, rfl, u, rfl, S, ?_, fun y hy => Nat.le_trans hw2 (hS y hy)⟩, hB⟩
  rw [tminus_len hlen]
  exact hseg.below hb
end Go.Proofs.YtmlbkcpmgcjblaaGreat

/- Layer 15 by types: change, Put, Take, Count; the laws' few. -/
namespace Go.Proofs.YtmlbkcpmgcjblaaGreat
open Go.RowKit

/-! ### few -/
def ivz (z : Int) : Value := .int .i64 z
def fewB (z : Int) : List Nat := [(z % 256).toNat, (z / 256 % 256).toNat]
theorem fewB_lt (z : Int) : ∀ x ∈ fewB z, x < 256 := by
  intro x hx
  simp only [fewB, List.mem_cons, List.not_mem_nil, or_false] at hx
  rcases hx with rfl | rfl <;> omega
def fewS (z : Int) : Sm := shaS (fewB z)
def fewL (l : List Int) : List Sm := setL (l.map fewS)
theorem fewL_len (l : List Int) : (fewL l).length ≤ l.length := by
  have := setL_len (l.map fewS)
  rwa [List.length_map] at this
theorem u8_wrap (z : Int) : IntKind.u8.wrap z = (((z % 256).toNat : Nat) : Int) := by rw [IntKind.wrap_u8']; omega
theorem ivz_drop {l : List Int} {k : Nat} (h : k < l.length) : (l.map ivz).drop k = ivz (l.getD k 0) :: (l.map ivz).drop (k + 1) := by
  have h1 : k < (l.map ivz).length := by rw [List.length_map]; exact h
  rw [List.drop_eq_getElem_cons h1]
  congr 1
  rw [List.getElem_map]
  simp [List.getD, List.getElem?_eq_getElem h]
theorem shr8z (z : Int) : z.fdiv (2 ^ (8 : Int).toNat) = z / 256 := by
  rw [show (2 : Int) ^ (8 : Int).toNat = 256 by decide, Int.fdiv_eq_ediv_of_nonneg _ (by decide)]
theorem n8i : (0 : Int) ≤ 8 ∧ (8 : Int).toNat ≤ IntKind.i64.bits := by decide
theorem take_snocS (l : List Int) {k : Nat} (h : k < l.length) : (l.map fewS).take (k + 1) = (l.map fewS).take k ++ [fewS (l.getD k 0)] := by
  rw [List.take_succ_eq_append_getElem (by rw [List.length_map]; exact h), List.getElem_map]
  simp [List.getD, List.getElem?_eq_getElem h]
set_option maxRecDepth 100000 in
set_option maxHeartbeats 2000000 in
theorem few16_ty (l : List Int) (τ : Ty) (hτ : Reads τ l.length (l.map ivz)) (hl : l.length ≤ 100000) : FnSeg1 Tryz.prog 6 τ 36 32 (fewL l).length (flat (fewL l)) := by
  refine ⟨fun args w => by kernel_rfl, fun w v hv0 => ?_⟩
  have hv : (Ty.rd l.length (l.map ivz)).p w v := hτ w v hv0
  have hof := of_ty (l.map fewS) (by rw [List.length_map]; omega)
  have eL : setL (l.map fewS) = fewL l := rfl
  rw [eL] at hof
  generalize fewL l = X at *
  let TV := Ty.rd l.length (l.map ivz)
  refine enter_ty 30 [Ty.ex v] Tryz.func6 rfl (by kernel_rfl) ⟨rfl, trivial⟩ fun a hF => ?_
  have hB := Below.refl w.heap.size w
  repeat with_reducible refine wp_seq ?_
  refine' reg_all hF ?_ mixed (by kernel_rfl) ?_
  rotate_left
  · repeat (first | exact Line.nil | ((refine' Line.cons rfl (.run rfl rfl ?_) ?_); (any_goals exact cAssign rfl rfl); rotate_left))
  intro a w1 hF hb hN
  have hBs := hB.size
  replace hB := hB.trans (hb.mono hB.size)
  dsimp only [ext, Option.getD] at hF
  repeat with_reducible first | refine wp_seq ?_ | refine nThen ?_
  refine' reg_all hF ?_ mixed (by kernel_rfl) ?_
  rotate_left
  · repeat (first | exact Line.nil | ((refine' Line.cons rfl (.run rfl rfl ?_) ?_); (any_goals exact cAssign rfl rfl); rotate_left))
  intro a w2 hF hb hN
  have hBs := hB.size
  replace hB := hB.trans (hb.mono hB.size)
  dsimp only [ext, Option.getD] at hF
  repeat with_reducible first | refine wp_seq ?_ | refine nThen ?_
  refine' reg_all hF ?_ mixed (by kernel_rfl) ?_
  rotate_left
  · repeat (first | exact Line.nil | ((refine' Line.cons rfl (.run rfl rfl ?_) ?_); (any_goals exact cAssign rfl rfl); rotate_left))
  intro a w3 hF hb hN
  have hBs := hB.size
  replace hB := hB.trans (hb.mono hB.size)
  dsimp only [ext, Option.getD] at hF
  repeat with_reducible first | refine nThen ?_ | refine wp_block ?_
  refine loop_ty (fun m a wr => ∃ (k : Nat) (u : Value) (S : List Nat), k + m = l.length ∧ Fr 30 [(0, Ty.ex v), (3, Ty.ex u), (4, Ty.ex (.int .i64 (k : Int)))] a wr ∧ Below w.heap.size w wr ∧ Seg wr 36 32 u k (flat ((l.map fewS).take k)) S ∧ ∀ y ∈ S, w.heap.size ≤ y) l.length ?_ ?_
  · exact ⟨0, _, [], by omega, hF.keep [0, 3, 4], hB, Seg.nil _ _ _, by simp⟩
  clear hF hB
  rintro m a wr ⟨k, u, S, hk, hF, hB, hseg, hS⟩
  have hvr := TV.below hv hB
  repeat with_reducible refine wp_seq ?_
  refine' reg_all hF ?_ mixed (by kernel_rfl) ?_
  rotate_left
  · repeat (first | exact Line.nil | ((refine' Line.cons rfl (.run rfl rfl ?_) ?_); (any_goals (first | exact cMove rfl rfl | exact cLenH rfl (.l rfl hvr) (Ty.rd_isSl _ _) Tryz.underlying23 | exact cLss rfl rfl rfl)); rotate_left))
  intro a w4 hF hb hN
  have hBs := hB.size
  replace hB := hB.trans (hb.mono hB.size)
  dsimp only [ext, Option.getD] at hF
  repeat with_reducible refine nThen ?_
  replace hseg := hseg.below hb
  replace hvr := TV.below hv hB
  refine cond_ty hF rfl (fun hlt => ?_) (fun hge => ?_)
  · have hlt : k < l.length := by have := of_decide_eq_true hlt; omega
    have hd1 := ivz_drop hlt
    have hsn := take_snocS l hlt
    obtain ⟨z, hz⟩ : ∃ z, z = l.getD k 0 := ⟨_, rfl⟩
    rw [← hz] at hd1 hsn
    have hO := sumOf1_ty (e := 39) (τ := Ty.sl 5 2 ((fewB z).map bv)) (fewB z) (reads_sl _ _ _) (fewB_lt z) (by simp [fewB])
    have hY : shaL (fewB z) = (fewS z).l := rfl
    rw [hY] at hO
    generalize fewS z = Y at *
    repeat with_reducible first | refine wp_seq ?_ | refine nThen ?_ | refine wp_skip ?_ | refine wp_block ?_
    refine' region_ty 16 mixed (by kernel_rfl) hF ?_ ?_
    rotate_left
    · simp only [List.take_succ_cons, List.take_zero]
      repeat (first | exact Line.nil | ((refine' Line.cons rfl (.run rfl rfl ?_) ?_); (any_goals (first | exact cMove rfl rfl | exact cIndexR (k := k) (sz := 1) rfl (.l rfl hvr) rfl Tryz.underlying23 sizeI hlt (by rw [List.length_map]; omega) | exact cLoad1 (u := ivz z) rfl (Has.c (.t rfl) (fun W v h => by rw [Nat.mul_one, hd1] at h; exact h)) (pts_atR _) Tryz.underlying3 rfl | exact cConvR (n := z) (r := (((z % 256).toNat : Nat) : Int)) rfl rfl Tryz.underlying3 Tryz.underlying5 (u8_wrap z) | exact cShr (r := z / 256) rfl rfl rfl n8i (shr8z z) | exact cConvR (n := z / 256) (r := (((z / 256 % 256).toNat : Nat) : Int)) rfl rfl Tryz.underlying3 Tryz.underlying5 (u8_wrap _) | exact cBuildV (vs := [bv (z % 256).toNat, bv (z / 256 % 256).toNat]) rfl (parts2v rfl rfl rfl) Tryz.underlying39 infoU8 rfl (by simp [Value.cells, bv]) (by decide) (by simp [maxLen]) | exact cBuildT (τs := [Ty.sl 5 2 ((fewB z).map bv)]) rfl (partsT1 rfl (.t rfl) (Ty.sl_isSl _ _ _)) Tryz.underlying70 infoB rfl | exact cCall1 rfl rfl hO | exact cBuildSums [Y] rfl (parts1v rfl rfl) Tryz.underlying31 infoS rfl)); rotate_left))
    intro a w5 hF hb hN
    have hBs := hB.size
    replace hB := hB.trans (hb.mono hB.size)
    simp only [List.take_succ_cons, List.take_zero, List.drop_succ_cons, List.drop_zero] at hF hN ⊢
    dsimp only [ext, Option.getD] at hF
    replace hseg := hseg.below hb
    refine tlAppend (Δ := [(0, Ty.ex v), (4, Ty.ex (.int .i64 (k : Int)))]) (n := k) (m := 1) (news := flat [Y]) hF rfl rfl rfl rfl Tryz.underlying31 infoS zero32_size rfl hseg (.t rfl) sl_news (flat_len _) flat_one' (by simp [maxLen]; omega) (by omega) (hF.keep [0, 4]) rfl ?_
    intro a w6 u' S' hF hseg' hk7 hS'
    have hbS : ∀ y ∈ S', w.heap.size ≤ y := own_next hB hS hS'
    replace hB := below_own hB hk7 hS
    rw [← flat_append, ← hsn] at hseg'
    refine' tlOp hF rfl rfl rfl ?_ ?_
    rotate_left
    · exact cAssign rfl rfl
    intro a w7 hF hb
    have hBs := hB.size
    replace hB := hB.trans (hb.mono hB.size)
    try (refine wpList_nil ?_)
    repeat with_reducible first | refine nThen ?_ | refine nBlk ?_
    replace hseg' := hseg'.below hb
    refine' reg_all hF ?_ mixed (by kernel_rfl) ?_
    rotate_left
    · repeat (first | exact Line.nil | ((refine' Line.cons rfl (.run rfl rfl ?_) ?_); (any_goals (first | exact cMove rfl rfl | exact cAssign rfl rfl | exact cAdd (r := ((k + 1 : Nat) : Int)) rfl rfl rfl (by omega))); rotate_left))
    intro a w8 hF hb hN
    have hBs := hB.size
    replace hB := hB.trans (hb.mono hB.size)
    dsimp only [ext, Option.getD] at hF
    repeat with_reducible refine nThen ?_
    exact ⟨m - 1, by omega, k + 1, u', S', by omega, hF.keep [0, 3, 4], hB, hseg'.below hb, hbS⟩
  have hge : ¬ k < l.length := by have := of_decide_eq_false hge; omega
  obtain rfl : k = l.length := by omega
  rw [List.take_of_length_le (by rw [List.length_map]; exact Nat.le_refl _)] at hseg
  have hu4 : (Ty.sums 36 (l.map fewS)).p w4 u := by
    have h := hseg.sl
    rwa [show l.length = (l.map fewS).length by rw [List.length_map]] at h
  have hw4 : w.heap.size ≤ w4.heap.size := hB.size
  repeat with_reducible first | refine wp_seq ?_ | refine nThen ?_ | refine wp_exit ?_ | refine xThen ?_ | refine xHere ?_
  refine' reg_all hF ?_ mixed (by kernel_rfl) ?_
  rotate_left
  · repeat (first | exact Line.nil | ((refine' Line.cons rfl (.run rfl rfl ?_) ?_); (any_goals (first | exact cMove rfl rfl | exact cAssign rfl rfl | exact cCallS1 rfl (.l rfl hu4) hof)); rotate_left))
  intro a w5 hF hb hN
  have hBs := hB.size
  replace hB := hB.trans (hb.mono hB.size)
  dsimp only [ext, Option.getD] at hF
  repeat with_reducible first | refine nThen ?_ | refine wp_ret ?_
  refine ret1 hF rfl rfl fun y hy => ?_
  exact ⟨y, rfl, seg_old hw4 _ _ hy, hB⟩
end Go.Proofs.YtmlbkcpmgcjblaaGreat

/- Layer 15 by types: change, Put, Take, Count. -/
namespace Go.Proofs.YtmlbkcpmgcjblaaGreat
open Go.RowKit

set_option maxRecDepth 100000 in
set_option maxHeartbeats 2000000 in
theorem change15_ty {f : FuncId} (seed : Nat) (L : List Cl) (x : Sm) (n : Int) (hL : L.length ≤ 1000000) (hsd : seed < 18446744073709551616) (hf : ∀ c : Cl, Fn2 Tryz.prog f (Ty.ex (.agg c.a)) (Ty.ex (.agg (u8s x.l))) (Ty.ex (.agg (c.put x n).a))) : FnR3 Tryz.prog 22 (Ty.tab 41 seed L) (Ty.ex (.agg (u8s x.l))) (Ty.ex (.func (.func f) #[] #[])) (fun w => Ty.tabO w 41 seed (tput seed L x n)) := by
  refine ⟨fun args w => by kernel_rfl, fun w v u q ⟨s, hv, hs⟩ hu hq => ?_⟩
  subst hv
  obtain ⟨fv, hfv⟩ : ∃ fv : Value, fv = .func (.func f) #[] #[] := ⟨_, rfl⟩
  rw [← hfv] at hq
  let TL := Ty.cls 41 L
  refine enter_ty 39 [Ty.ex (.agg #[.int .u64 (seed : Int), s]), Ty.ex (.agg (u8s x.l)), Ty.ex fv] Tryz.func22 rfl (by kernel_rfl) ⟨rfl, hu, hq, trivial⟩ fun a hF => ?_
  have hB := Below.refl w.heap.size w
  repeat with_reducible refine wp_seq ?_
  refine' reg_all hF ?_ mixed (by kernel_rfl) ?_
  rotate_left
  · repeat (first
        | exact Line.nil
        | (refine' Line.cons rfl (.new rfl rfl (run_alloc_i infoT46) rfl) ?_; rotate_left)
        | ((refine' Line.cons rfl (.run rfl rfl ?_) ?_)
           any_goals (first | exact cBoxTab rfl rfl | exact cBoxSum rfl rfl)
           rotate_left))
  intro a w1 hF hb hN
  have hBs := hB.size
  replace hB := hB.trans (hb.mono hB.size)
  dsimp only [ext, Option.getD] at hF
  repeat with_reducible first | refine wp_seq ?_ | refine nThen ?_
  obtain ⟨z, ⟨g6, rfl, hg6, hb6⟩, hF⟩ := hF.open (s := 6) rfl
  have hg6 : w.heap.size ≤ g6 := hg6
  obtain ⟨p3, hp3, hF⟩ := hF.open (s := 3) rfl
  obtain ⟨p4, hp4, hF⟩ := hF.open (s := 4) rfl
  have hs1 := TL.below hs hB
  have hB0 := hB
  have hw1 := hB.size
  have hlt6 := hb6.lt
  replace hB := Below.refl w1.heap.size w1
  refine' reg_all hF ?_ mixed (by kernel_rfl) ?_
  rotate_left
  · repeat (first | exact Line.nil | ((refine' Line.cons rfl (.run rfl rfl ?_) ?_); (any_goals (first | exact cAssign rfl rfl | exact cFldL46 rfl (.l rfl hp3) | exact cRowOf46 rfl (.t rfl) | exact cCallS1 rfl (.l rfl hs1) (cloneC_ty L hL))); rotate_left))
  intro a w2 hF hb hN
  have hBs := hB.size
  replace hB := hB.trans (hb.mono hB.size)
  dsimp only [ext, Option.getD] at hF
  repeat with_reducible first | refine wp_seq ?_ | refine nThen ?_
  obtain ⟨u7, ⟨S, hsg, hS⟩, hF⟩ := hF.open (s := 7) rfl
  have hp32 := (Ty.at_ 27 [.int .u64 (seed : Int), s]).below hp3 hB
  have hp42 := (Ty.at_ 36 x.enc).below hp4 hB
  have hs7 : (Ty.cls 41 L).p w2 u7 := hsg.sl
  have hPp := places_ty seed (L.length : Int) x hsd
  have hPl3 := placesN_len3 seed (L.length : Int) x
  have hPd : ∀ j, j < (placesN seed (L.length : Int) x).length → (placesN seed (L.length : Int) x).getD j 0 < L.length := fun j hj => places_lt seed L.length x _ (getD_mem hj)
  have hput : tput seed L x n = (placesN seed (L.length : Int) x).foldl (fun L i => tputAt L i x n) L := rfl
  generalize placesN seed (L.length : Int) x = PL at *
  refine' reg_all hF ?_ mixed (by kernel_rfl) ?_
  rotate_left
  · repeat (first | exact Line.nil | ((refine' Line.cons rfl (.run rfl rfl ?_) ?_); (any_goals (first | exact cMove rfl rfl | exact cFldS46 rfl (.l rfl hp32) | exact cLoadU64 rfl (.t rfl) | exact cLenH rfl (.l rfl hs7) (Ty.sl_isSl _ _ _) Tryz.underlying24 | exact cLoadSum rfl (.l rfl hp42) Tryz.underlying36 sizeS | exact cCall3 rfl rfl rfl rfl hPp | exact cLen rfl rfl (Ty.sl_isSl _ _ _) Tryz.underlying23)); rotate_left))
  intro a w3 hF hb hN
  have hBs := hB.size
  replace hB := hB.trans (hb.mono hB.size)
  dsimp only [ext, Option.getD] at hF
  repeat with_reducible first | refine nThen ?_ | refine wp_block ?_
  replace hsg := hsg.below hb
  obtain ⟨v18, hv18, hF⟩ := hF.open (s := 18) rfl
  refine loop_ty (fun m a wr => ∃ j : Nat, j + m = PL.length ∧ Fr 39 [(2, Ty.ex fv), (3, Ty.ex p3), (4, Ty.ex p4), (6, Ty.ex (.pointer (some ⟨g6, 0, none⟩))), (7, Ty.ex u7), (18, Ty.ex v18), (19, Ty.ex (.int .i64 (PL.length : Int))), (20, Ty.ex (.int .i64 (j : Int)))] a wr ∧ Below w1.heap.size w1 wr ∧ Seg wr 41 65 u7 L.length (flatC ((PL.take j).foldl (fun L i => tputAt L i x n) L)) S ∧ (Ty.sl 3 PL.length (PL.map ivn)).p wr v18) PL.length ?_ ?_
  · exact ⟨0, by omega, hF.keep [2, 3, 4, 6, 7, 18, 19, 20], hB, hsg, hv18⟩
  clear hF hB hsg hv18 hp32 hp42 hs7
  rintro m a wr ⟨j, hj, hF, hB, hsg, hv18⟩
  repeat with_reducible refine wp_seq ?_
  refine' reg_all hF ?_ mixed (by kernel_rfl) ?_
  rotate_left
  · repeat (first | exact Line.nil | ((refine' Line.cons rfl (.run rfl rfl ?_) ?_); (any_goals exact cLss rfl rfl rfl); rotate_left))
  intro a w4 hF hb hN
  have hBs := hB.size
  replace hB := hB.trans (hb.mono hB.size)
  dsimp only [ext, Option.getD] at hF
  repeat with_reducible first | refine wp_seq ?_ | refine nThen ?_
  replace hsg := hsg.below hb
  replace hv18 : (Ty.sl 3 PL.length (PL.map ivn)).p w4 v18 := (Ty.sl 3 PL.length (PL.map ivn)).below hv18 hb
  refine cond_ty hF rfl (fun hlt2 => ?_) (fun hge2 => ?_)
  · have hlt2 : j < PL.length := by have := of_decide_eq_true hlt2; omega
    have hi := hPd j hlt2
    have hfs := fold_snoc PL hlt2 L x n
    have hd1 := ivn_drop hlt2
    have hFl : ((PL.take j).foldl (fun L i => tputAt L i x n) L).length = L.length := by rw [foldAt_len]
    generalize (PL.take j).foldl (fun L i => tputAt L i x n) L = R at *
    generalize PL.getD j 0 = i at *
    obtain ⟨g, off, cap, eu, eS, hsl⟩ : ∃ g off cap, u7 = .slice (some ⟨g, off, none⟩) L.length cap ∧ S = [g] ∧ SegL w4 41 65 g off L.length cap (flatC R) := by
      rcases hsg.cases with ⟨_, h0, _⟩ | h
      · omega
      · exact h
    have hgw : w1.heap.size ≤ g := by
      have := hS g (by rw [eS]; simp)
      exact this
    rw [eu, hfv] at hF
    have hp44 := (Ty.at_ 36 x.enc).below hp4 hB
    repeat with_reducible first | refine wp_seq ?_ | refine nThen ?_ | refine wp_skip ?_ | refine wp_block ?_
    refine' reg_all hF ?_ mixed (by kernel_rfl) ?_
    rotate_left
    · repeat (first | exact Line.nil | ((refine' Line.cons rfl (.run rfl rfl ?_) ?_); (any_goals (first | exact cAssign rfl rfl | exact cIndexS (k := j) (sz := 1) rfl (.l rfl hv18) rfl Tryz.underlying23 sizeI hlt2 (by rw [List.length_map]; omega) | exact cLoad1 (u := ivn i) rfl (Has.c (.t rfl) (fun W v h => by rw [Nat.mul_one, hd1] at h; exact h)) (pts_at _ _) Tryz.underlying3 rfl)); rotate_left))
    intro a w5 hF hb hN
    have hBs := hB.size
    replace hB := hB.trans (hb.mono hB.size)
    dsimp only [ext, Option.getD] at hF
    repeat with_reducible refine nThen ?_
    replace hsl := hsl.below hb
    replace hv18 : (Ty.sl 3 PL.length (PL.map ivn)).p w5 v18 := (Ty.sl 3 PL.length (PL.map ivn)).below hv18 hb
    replace hp44 := (Ty.at_ 36 x.enc).below hp44 hb
    have hcell := cell_at hsl (i := i) (by omega)
    refine' region_ty 10 mixed (by kernel_rfl) hF ?_ ?_
    rotate_left
    · simp only [List.take_succ_cons, List.take_zero]
      repeat (first | exact Line.nil | ((refine' Line.cons rfl (.run rfl rfl ?_) ?_); (any_goals (first | exact cMove rfl rfl | exact cIndexEx (k := i) (sz := 65) rfl rfl rfl Tryz.underlying24 info34 hi | exact cLoadCl34 rfl (.l rfl hcell) | exact cLoadSum rfl (.l rfl hp44) Tryz.underlying36 sizeS | exact cCallV2 rfl rfl (.t rfl) (.t rfl) (hf _))); rotate_left))
    intro a w6 hF hb hN
    have hBs := hB.size
    replace hB := hB.trans (hb.mono hB.size)
    simp only [List.take_succ_cons, List.take_zero, List.drop_succ_cons, List.drop_zero] at hF hN ⊢
    dsimp only [ext, Option.getD] at hF
    replace hsl := hsl.below hb
    replace hv18 : (Ty.sl 3 PL.length (PL.map ivn)).p w6 v18 := (Ty.sl 3 PL.length (PL.map ivn)).below hv18 hb
    obtain ⟨csb, hbl⟩ : ∃ cs, Blk w6 g 41 cs := by
      obtain ⟨_, _, _, cs, h, _⟩ := hsl
      exact ⟨cs, h⟩
    refine tlStoreAt (Δ := [(2, Ty.ex fv), (3, Ty.ex p3), (4, Ty.ex p4), (6, Ty.ex (.pointer (some ⟨g6, 0, none⟩))), (7, Ty.ex u7), (18, Ty.ex v18), (19, Ty.ex (.int .i64 (PL.length : Int))), (20, Ty.ex (.int .i64 (j : Int)))]) (k := i * 65) hF rfl rfl rfl rfl rfl hsl (by rw [Cl.size]; omega) (by rw [Cl.size]; exact info34) (Cl.one _) (by rw [eu, hfv]; exact hF.keep [2, 3, 4, 6, 7, 18, 19, 20]) rfl ?_
    intro w8 hF hsl hk8
    refine wpList_nil ?_
    replace hB := below_own hB hk8 (by intro y hy; simp only [List.mem_singleton] at hy; omega)
    replace hv18 : (Ty.sl 3 PL.length (PL.map ivn)).p w8 v18 := (Ty.sl 3 PL.length (PL.map ivn)).far hv18 hk8 hbl rfl
    rw [show ((R.getD i default).put x n).a.toList = ((R.getD i default).put x n).enc from rfl, over_flatC _ _ (by omega)] at hsl
    rw [show R.set i ((R.getD i default).put x n) = tputAt R i x n from rfl, ← hfs] at hsl
    replace hsg := hsl.seg
    rw [← eu, ← eS] at hsg
    repeat with_reducible first | refine nThen ?_ | refine nBlk ?_
    refine' reg_all hF ?_ mixed (by kernel_rfl) ?_
    rotate_left
    · repeat (first | exact Line.nil | ((refine' Line.cons rfl (.run rfl rfl ?_) ?_); (any_goals (first | exact cMove rfl rfl | exact cAdd (r := ((j + 1 : Nat) : Int)) rfl rfl rfl (by omega))); rotate_left))
    intro a w9 hF hb hN
    have hBs := hB.size
    replace hB := hB.trans (hb.mono hB.size)
    dsimp only [ext, Option.getD] at hF
    repeat with_reducible refine nThen ?_
    exact ⟨m - 1, by omega, j + 1, by omega, hF.keep [2, 3, 4, 6, 7, 18, 19, 20], hB, hsg.below hb, (Ty.sl 3 PL.length (PL.map ivn)).below hv18 hb⟩
  have hge2 : ¬ j < PL.length := by have := of_decide_eq_false hge2; omega
  obtain rfl : j = PL.length := by omega
  rw [List.take_length, ← hput] at hsg
  have hp34 := (Ty.at_ 27 [.int .u64 (seed : Int), s]).below hp3 hB
  replace hb6 : Blk w4 g6 27 #[.int .u64 0, .slice none 0 0] := hb6.below hB
  replace hB := hB0.trans (hB.mono hw1)
  repeat with_reducible first | refine wp_seq ?_ | refine nThen ?_ | refine wp_exit ?_ | refine xThen ?_ | refine xHere ?_
  refine' region_ty 4 mixed (by kernel_rfl) hF ?_ ?_
  rotate_left
  · simp only [List.take_succ_cons, List.take_zero]
    repeat (first | exact Line.nil | ((refine' Line.cons rfl (.run rfl rfl ?_) ?_); (any_goals (first | exact cMove rfl rfl | exact cFldS46 rfl (.l rfl hp34) | exact cLoadU64 rfl (.t rfl) | exact cBuild2w rfl rfl rfl (fun w => buildT46 (seed : Int) (seg_isA hsg) w))); rotate_left))
  intro a w5 hF hb hN
  have hBs := hB.size
  replace hB := hB.trans (hb.mono hB.size)
  simp only [List.take_succ_cons, List.take_zero, List.drop_succ_cons, List.drop_zero] at hF hN ⊢
  dsimp only [ext, Option.getD] at hF
  replace hb6 := hb6.below hb
  replace hsg := hsg.below hb
  refine tlStoreV (Δ := [(6, Ty.ex (.pointer (some ⟨g6, 0, none⟩)))]) hF rfl rfl rfl rfl (hF.getEx (s := 38) rfl) hb6 rfl sizeT46 (sl_one hsg.sl _) (hF.keep [6]) rfl ?_
  intro w8 hF hb6' hkx
  refine wpList_nil ?_
  replace hB := below_own hB hkx (by intro y hy; simp only [List.mem_singleton] at hy; omega)
  replace hsg := hsg.keeps hkx (seg_far hsg hb6 (by decide))
  repeat with_reducible first | refine nThen ?_ | refine wp_ret ?_
  refine retCell hF rfl rfl hb6' Tryz.underlying27 rfl sizeT46 ?_
  refine ⟨_, rfl, ⟨u7, rfl, S, ?_, fun y hy => Nat.le_trans hw1 (hS y hy)⟩, hB⟩
  rw [tput_len]
  exact hsg
set_option maxRecDepth 100000 in
theorem ttake_ty (seed : Nat) (L : List Cl) (x : Sm) (hL : L.length ≤ 1000000) (hsd : seed < 18446744073709551616) : FnR2 Tryz.prog 7 (Ty.tab 41 seed L) (Ty.ex (.agg (u8s x.l))) (fun w => Ty.tabO w 41 seed (tput seed L x (-1))) := by
  refine ⟨fun args w => by kernel_rfl, fun w v u ⟨s, hv, hs⟩ hu => ?_⟩
  subst hv
  have hC := change15_ty seed L x (-1) hL hsd (fun c => take_ty c x)
  refine enter_ty 8 [Ty.ex (.agg #[.int .u64 (seed : Int), s]), Ty.ex (.agg (u8s x.l))] Tryz.func7 rfl (by kernel_rfl) ⟨rfl, hu, trivial⟩ fun a hF => ?_
  have hB := Below.refl w.heap.size w
  repeat with_reducible refine wp_seq ?_
  refine' reg_all hF ?_ mixed (by kernel_rfl) ?_
  rotate_left
  · repeat (first
        | exact Line.nil
        | (refine' Line.cons rfl (.new rfl rfl (run_alloc_i infoT46) rfl) ?_; rotate_left)
        | ((refine' Line.cons rfl (.run rfl rfl ?_) ?_)
           any_goals (first | exact cBoxTab rfl rfl | exact cBoxSum rfl rfl)
           rotate_left))
  intro a w1 hF hb hN
  have hBs := hB.size
  replace hB := hB.trans (hb.mono hB.size)
  dsimp only [ext, Option.getD] at hF
  repeat with_reducible first | refine wp_seq ?_ | refine nThen ?_
  obtain ⟨z, ⟨g4, rfl, hg4, hb4⟩, hF⟩ := hF.open (s := 4) rfl
  have hg4 : w.heap.size ≤ g4 := hg4
  have ht : (Ty.tab 41 seed L).p w1 (.agg #[.int .u64 (seed : Int), s]) := ⟨s, rfl, (Ty.cls 41 L).below hs hB⟩
  have hw1 := hB.size
  refine' region_ty 3 mixed (by kernel_rfl) hF ?_ ?_
  rotate_left
  · simp only [List.take_succ_cons, List.take_zero]
    repeat (first | exact Line.nil | ((refine' Line.cons rfl (.run rfl rfl ?_) ?_); (any_goals (first | exact cLoadT46 rfl (.t rfl) | exact cLoadSum rfl (.t rfl) Tryz.underlying36 sizeS | exact cCallR3 rfl (.l rfl ht) (.t rfl) (.t rfl) hC (tabO_olds _ _ _))); rotate_left))
  intro a w2 hF hb hN
  have hBs := hB.size
  replace hB := hB.trans (hb.mono hB.size)
  simp only [List.take_succ_cons, List.take_zero, List.drop_succ_cons, List.drop_zero] at hF hN ⊢
  dsimp only [ext, Option.getD] at hF
  replace hb4 := hb4.below hb
  obtain ⟨z, ⟨u7, rfl, S, hsg, hS⟩, hF⟩ := hF.open (s := 7) rfl
  refine tlStoreV (Δ := [(4, Ty.ex (.pointer (some ⟨g4, 0, none⟩)))]) hF rfl rfl rfl rfl (hF.getEx (s := 7) rfl) hb4 rfl sizeT46 (sl_one hsg.sl _) (hF.keep [4]) rfl ?_
  intro w3 hF hb4' hkx
  refine wpList_nil ?_
  replace hB := below_own hB hkx (by intro y hy; simp only [List.mem_singleton] at hy; omega)
  replace hsg := hsg.keeps hkx (seg_far hsg hb4 (by decide))
  repeat with_reducible first | refine nThen ?_ | refine wp_ret ?_
  refine retCell hF rfl rfl hb4' Tryz.underlying27 rfl sizeT46 ?_
  exact ⟨_, rfl, ⟨u7, rfl, S, hsg, fun y hy => Nat.le_trans hw1 (hS y hy)⟩, hB⟩
end Go.Proofs.YtmlbkcpmgcjblaaGreat

/- Layer 10: the walks of BinarySearchFunc, has, Has. -/
namespace Go.Proofs.YtmlbkcpmgcjblaaGreat
open Go.RowKit

abbrev cmpF : Value := .func (.func 53) #[] #[]
set_option maxRecDepth 100000 in
set_option maxHeartbeats 2000000 in
theorem bsearch_ty (L : List Sm) (x : Sm) (hL : L.length ≤ 1000000) (hs : srt L) : Fn3 Tryz.prog 90 (Ty.sums 36 L) (Ty.ex (.agg (u8s x.l))) (Ty.ex cmpF) (Ty.tup [Ty.any, Ty.ex (.bool (decide (x ∈ L)))]) := by
  refine ⟨fun args w => by kernel_rfl, fun w v u t hv hu ht => ?_⟩
  refine enter_ty 49 [Ty.ex v, Ty.ex (.agg (u8s x.l)), Ty.ex cmpF] Tryz.func90 rfl (by kernel_rfl) ⟨rfl, hu, ht, trivial⟩ fun a hF => ?_
  have hB := Below.refl w.heap.size w
  repeat with_reducible refine wp_seq ?_
  refine' reg_all hF ?_ mixed (by kernel_rfl) ?_
  rotate_left
  · repeat (first | exact Line.nil | ((refine' Line.cons rfl (.run rfl rfl ?_) ?_); (any_goals (first | exact cBoxSum rfl rfl | exact cAssign rfl rfl)); rotate_left))
  intro a w1 hF hb hN
  have hBs := hB.size
  replace hB := hB.trans (hb.mono hB.size)
  dsimp only [ext, Option.getD] at hF
  repeat with_reducible first | refine wp_seq ?_ | refine nThen ?_
  refine' reg_all hF ?_ mixed (by kernel_rfl) ?_
  rotate_left
  · repeat (first | exact Line.nil | ((refine' Line.cons rfl (.run rfl rfl ?_) ?_); (any_goals (first | exact cLenH rfl (.l rfl ((Ty.sums 36 L).below hv hB)) (Ty.sl_isSl _ _ _) Tryz.underlying32 | exact cMove rfl rfl | exact cAssign rfl rfl)); rotate_left))
  intro a w2 hF hb hN
  have hBs := hB.size
  replace hB := hB.trans (hb.mono hB.size)
  dsimp only [ext, Option.getD] at hF
  repeat with_reducible first | refine wp_seq ?_ | refine nThen ?_
  refine' reg_all hF ?_ mixed (by kernel_rfl) ?_
  rotate_left
  · repeat (first | exact Line.nil | ((refine' Line.cons rfl (.run rfl rfl ?_) ?_); (any_goals (first | exact cMove rfl rfl | exact cAssign rfl rfl)); rotate_left))
  intro a w3 hF hb hN
  have hBs := hB.size
  replace hB := hB.trans (hb.mono hB.size)
  dsimp only [ext, Option.getD] at hF
  repeat with_reducible first | refine wp_seq ?_ | refine nThen ?_ | refine wp_block ?_
  refine loop_ty (fun m a wr => ∃ lo hi : Nat, hi = lo + m ∧ hi ≤ L.length ∧ Fr 49 [(0, Ty.ex v), (2, Ty.ex cmpF), (4, Ty.at_ 36 x.enc), (8, Ty.ex (.int .i64 (L.length : Int))), (9, Ty.ex (.int .i64 (lo : Int))), (10, Ty.ex (.int .i64 (hi : Int)))] a wr ∧ Below w.heap.size w wr ∧
      (∀ j, j < lo → cmpL (L.getD j default).l x.l < 0) ∧ ∀ j, hi ≤ j → j < L.length → ¬ cmpL (L.getD j default).l x.l < 0) L.length ?_ ?_
  · exact ⟨0, L.length, by omega, Nat.le_refl _, hF.keep [0, 2, 4, 8, 9, 10], hB, fun j hj => by omega, fun j h1 h2 => by omega⟩
  clear hF hB
  rintro m a wr ⟨lo, hi, rfl, hlen, hF, hB, hlo, hhi⟩
  repeat with_reducible refine wp_seq ?_
  refine' reg_all hF ?_ mixed (by kernel_rfl) ?_
  rotate_left
  · repeat (first | exact Line.nil | ((refine' Line.cons rfl (.run rfl rfl ?_) ?_); (any_goals (first | exact cMove rfl rfl | exact cLss rfl rfl rfl)); rotate_left))
  intro a w4 hF hb hN
  have hBs := hB.size
  replace hB := hB.trans (hb.mono hB.size)
  dsimp only [ext, Option.getD] at hF
  repeat with_reducible refine nThen ?_
  refine cond_ty hF rfl (fun hlt => ?_) (fun hge => ?_)
  · have hlt : 0 < m := by have := of_decide_eq_true hlt; omega
    have hmid : (lo + (lo + m)) / 2 < lo + m := by omega
    repeat with_reducible first | refine wp_seq ?_ | refine nThen ?_ | refine wp_skip ?_ | refine wp_block ?_
    refine' reg_all hF ?_ mixed (by kernel_rfl) ?_
    rotate_left
    · repeat (first | exact Line.nil | ((refine' Line.cons rfl (.run rfl rfl ?_) ?_); (any_goals (first | exact cAdd (r := ((lo + (lo + m) : Nat) : Int)) rfl rfl rfl (by omega) | exact cConvR (r := ((lo + (lo + m) : Nat) : Int)) rfl rfl Tryz.underlying3 Tryz.underlying38 (by simp [IntKind.wrap, IntKind.bits]; omega) | exact cShr (r := (((lo + (lo + m)) / 2 : Nat) : Int)) rfl rfl rfl (by decide) (by simp [Int.fdiv_eq_ediv_of_nonneg]) | exact cConvR (r := (((lo + (lo + m)) / 2 : Nat) : Int)) rfl rfl Tryz.underlying38 Tryz.underlying3 (by simp [IntKind.wrap, IntKind.bits]; omega) | exact cMove rfl rfl | exact cAssign rfl rfl)); rotate_left))
    intro a w5 hF hb hN
    have hBs := hB.size
    replace hB := hB.trans (hb.mono hB.size)
    dsimp only [ext, Option.getD] at hF
    repeat with_reducible first | refine wp_seq ?_ | refine nThen ?_
    have hh1 : lo ≤ (lo + (lo + m)) / 2 := by omega
    generalize (lo + (lo + m)) / 2 = h at *
    refine' reg_all hF ?_ mixed (by kernel_rfl) ?_
    rotate_left
    · repeat (first | exact Line.nil | ((refine' Line.cons rfl (.run rfl rfl ?_) ?_); (any_goals (first | exact cIndexSum (k := h) rfl (.l rfl ((Ty.sums 36 L).below hv hB)) rfl Tryz.underlying32 sizeS (by omega) | exact cLoadSum rfl (.t rfl) Tryz.underlying36 sizeS | exact cCallV2 rfl rfl (.t rfl) (.t rfl) (cmp_ty _ _) | exact cMove rfl rfl | exact cLss rfl rfl rfl)); rotate_left))
    intro a w6 hF hb hN
    have hBs := hB.size
    replace hB := hB.trans (hb.mono hB.size)
    dsimp only [ext, Option.getD] at hF
    repeat with_reducible refine nThen ?_
    refine cond_ty hF rfl (fun hc => ?_) (fun hc => ?_)
    · have hc := of_decide_eq_true hc
      refine' reg_all hF ?_ mixed (by kernel_rfl) ?_
      rotate_left
      · repeat (first | exact Line.nil | ((refine' Line.cons rfl (.run rfl rfl ?_) ?_); (any_goals (first | exact cAdd (r := ((h + 1 : Nat) : Int)) rfl rfl rfl (by omega) | exact cMove rfl rfl | exact cAssign rfl rfl)); rotate_left))
      intro a w7 hF hb hN
      have hBs := hB.size
      replace hB := hB.trans (hb.mono hB.size)
      dsimp only [ext, Option.getD] at hF
      repeat with_reducible first | refine nThen ?_ | refine nBlk ?_
      refine ⟨lo + m - (h + 1), by omega, h + 1, lo + m, by omega, hlen, hF.keep [0, 2, 4, 8, 9, 10], hB, fun j hj => ?_, hhi⟩
      by_cases hjh : j = h
      · subst hjh; exact hc
      · have := lt_get hs (i := j) (j := h) (by omega) (by omega)
        exact cmp_lt_trans (by omega) (by omega) (.inl this)
    · have hc := of_decide_eq_false hc
      refine' reg_all hF ?_ mixed (by kernel_rfl) ?_
      rotate_left
      · repeat (first | exact Line.nil | ((refine' Line.cons rfl (.run rfl rfl ?_) ?_); (any_goals (first | exact cMove rfl rfl | exact cAssign rfl rfl)); rotate_left))
      intro a w7 hF hb hN
      have hBs := hB.size
      replace hB := hB.trans (hb.mono hB.size)
      dsimp only [ext, Option.getD] at hF
      repeat with_reducible first | refine nThen ?_ | refine nBlk ?_
      refine ⟨h - lo, by omega, lo, h, by omega, by omega, hF.keep [0, 2, 4, 8, 9, 10], hB, hlo, fun j hj hjl hjx => ?_⟩
      by_cases hjh : j = h
      · subst hjh; exact hc hjx
      · have := lt_get hs (i := h) (j := j) (by omega) (by omega)
        exact hc (cmp_lt_trans (by omega) (by omega) (.inl this))
  · have hge : m = 0 := by have := of_decide_eq_false hge; omega
    subst hge
    rw [Nat.add_zero] at *
    repeat with_reducible first | refine wp_seq ?_ | refine nThen ?_ | refine wp_exit ?_ | refine xThen ?_ | refine xHere ?_
    by_cases hle : lo < L.length
    · by_cases he : cmpL (L.getD lo default).l x.l = 0
      · refine' reg_all hF ?_ mixed (by kernel_rfl) ?_
        rotate_left
        · repeat (first | exact Line.nil | ((first | refine' Line.cons rfl (.run rfl rfl ?_) ?_ | refine' Line.cons rfl (.yes rfl rfl rfl rfl ?_) ?_); (any_goals (first | exact OpOk.b (c := true) (cLss rfl rfl rfl) (decide_eq_true (by omega)) | exact OpOk.b (c := true) (cEql rfl rfl rfl) (decide_eq_true he) | exact cIndexSum (k := lo) rfl (.l rfl ((Ty.sums 36 L).below hv hB)) rfl Tryz.underlying32 sizeS hle | exact cLoadSum rfl (.t rfl) Tryz.underlying36 sizeS | exact cCallV2 rfl rfl (.t rfl) (.t rfl) (cmp_ty _ _) | exact cMove rfl rfl | exact cAssign rfl rfl | exact cPickT rfl rfl rfl)); rotate_left))
        intro a w5 hF hb hN
        have hBs := hB.size
        replace hB := hB.trans (hb.mono hB.size)
        dsimp only [ext, Option.getD] at hF
        repeat with_reducible first | refine nThen ?_ | refine wp_ret ?_
        refine ret2 hF rfl rfl rfl fun y z hy hz => ?_
        refine ⟨_, rfl, ⟨[y, z], rfl, trivial, ?_, trivial⟩, hB⟩
        rw [decide_eq_true (mem_get.2 ⟨lo, hle, cmp_zero.1 he⟩)]
        exact hz
      · refine' reg_all hF ?_ mixed (by kernel_rfl) ?_
        rotate_left
        · repeat (first | exact Line.nil | ((first | refine' Line.cons rfl (.run rfl rfl ?_) ?_ | refine' Line.cons rfl (.yes rfl rfl rfl rfl ?_) ?_); (any_goals (first | exact OpOk.b (c := true) (cLss rfl rfl rfl) (decide_eq_true (by omega)) | exact OpOk.b (c := false) (cEql rfl rfl rfl) (decide_eq_false he) | exact cIndexSum (k := lo) rfl (.l rfl ((Ty.sums 36 L).below hv hB)) rfl Tryz.underlying32 sizeS hle | exact cLoadSum rfl (.t rfl) Tryz.underlying36 sizeS | exact cCallV2 rfl rfl (.t rfl) (.t rfl) (cmp_ty _ _) | exact cMove rfl rfl | exact cAssign rfl rfl | exact cPickT rfl rfl rfl)); rotate_left))
        intro a w5 hF hb hN
        have hBs := hB.size
        replace hB := hB.trans (hb.mono hB.size)
        dsimp only [ext, Option.getD] at hF
        repeat with_reducible first | refine nThen ?_ | refine wp_ret ?_
        refine ret2 hF rfl rfl rfl fun y z hy hz => ?_
        refine ⟨_, rfl, ⟨[y, z], rfl, trivial, ?_, trivial⟩, hB⟩
        rw [decide_eq_false]
        · exact hz
        · intro hm
          obtain ⟨j, hj, hjx⟩ := mem_get.1 hm
          have h1 : cmpL (L.getD j default).l x.l = 0 := cmp_zero.2 hjx
          rcases Nat.lt_trichotomy j lo with h2 | h2 | h2
          · have := hlo j h2; omega
          · subst h2; exact he h1
          · have h3 := lt_get hs h2 hj
            rw [hjx] at h3
            exact hhi lo (Nat.le_refl _) hle h3
    · refine' reg_all hF ?_ mixed (by kernel_rfl) ?_
      rotate_left
      · repeat (first | exact Line.nil | (refine' Line.cons rfl (.no rfl rfl rfl rfl rfl rfl) ?_; rotate_left) | ((refine' Line.cons rfl (.run rfl rfl ?_) ?_); (any_goals (first | exact OpOk.b (c := false) (cLss rfl rfl rfl) (decide_eq_false (by omega)) | exact cMove rfl rfl | exact cAssign rfl rfl | exact cPickF rfl rfl rfl)); rotate_left))
      intro a w5 hF hb hN
      have hBs := hB.size
      replace hB := hB.trans (hb.mono hB.size)
      dsimp only [ext, Option.getD] at hF
      repeat with_reducible first | refine nThen ?_ | refine wp_ret ?_
      refine ret2 hF rfl rfl rfl fun y z hy hz => ?_
      refine ⟨_, rfl, ⟨[y, z], rfl, trivial, ?_, trivial⟩, hB⟩
      rw [decide_eq_false]
      · exact hz
      · intro hm
        obtain ⟨j, hj, hjx⟩ := mem_get.1 hm
        have := hlo j (by omega)
        rw [hjx, cmp_self] at this
        omega

set_option maxRecDepth 100000 in
theorem hasI_ty (L : List Sm) (x : Sm) (hL : L.length ≤ 1000000) (hs : srt L) : Fn2 Tryz.prog 73 (Ty.sums 36 L) (Ty.ex (.agg (u8s x.l))) (Ty.ex (.bool (decide (x ∈ L)))) := by
  refine ⟨fun args w => by kernel_rfl, fun w v u hv hu => ?_⟩
  refine enter_ty 14 [Ty.ex v, Ty.ex (.agg (u8s x.l))] Tryz.func73 rfl (by kernel_rfl) ⟨rfl, hu, trivial⟩ fun a hF => ?_
  have hB := Below.refl w.heap.size w
  repeat with_reducible refine wp_seq ?_
  refine' reg_all hF ?_ mixed (by kernel_rfl) ?_
  rotate_left
  · repeat (first | exact Line.nil | ((refine' Line.cons rfl (.run rfl rfl ?_) ?_); (any_goals (first | exact cBoxSum rfl rfl | exact cAssign rfl rfl)); rotate_left))
  intro a w1 hF hb hN
  have hBs := hB.size
  replace hB := hB.trans (hb.mono hB.size)
  dsimp only [ext, Option.getD] at hF
  repeat with_reducible first | refine wp_seq ?_ | refine nThen ?_
  refine' reg_all hF ?_ mixed (by kernel_rfl) ?_
  rotate_left
  · repeat (first | exact Line.nil | ((refine' Line.cons rfl (.run rfl rfl ?_) ?_); (any_goals (first | exact cLoadSum rfl (.t rfl) Tryz.underlying36 sizeS | exact cCallH3 rfl (.l rfl ((Ty.sums 36 L).below hv hB)) (.t rfl) (.t rfl) (bsearch_ty L x hL hs) | exact cMove rfl rfl | exact cAssign rfl rfl | exact cExtract rfl rfl rfl)); rotate_left))
  intro a w2 hF hb hN
  have hBs := hB.size
  replace hB := hB.trans (hb.mono hB.size)
  dsimp only [ext, Option.getD] at hF
  repeat with_reducible first | refine wp_seq ?_ | refine nThen ?_
  refine' reg_all hF ?_ mixed (by kernel_rfl) ?_
  rotate_left
  · repeat (first | exact Line.nil | ((refine' Line.cons rfl (.run rfl rfl ?_) ?_); (any_goals (first | exact cMove rfl rfl | exact cAssign rfl rfl)); rotate_left))
  intro a w3 hF hb hN
  have hBs := hB.size
  replace hB := hB.trans (hb.mono hB.size)
  dsimp only [ext, Option.getD] at hF
  repeat with_reducible first | refine nThen ?_ | refine wp_ret ?_
  refine ret1 hF rfl rfl fun z hz => ?_
  exact ⟨z, rfl, hz, hB⟩
end Go.Proofs.YtmlbkcpmgcjblaaGreat

/- Layer 10: the walks of IndexFunc, DeleteFunc, Minus, Both. -/
namespace Go.Proofs.YtmlbkcpmgcjblaaGreat
open Go.RowKit

theorem PredK.at_ {P : Program} {f : FuncId} {cb : Array Value} {S : List Nat} {w w0 : World} {p : Sm → Bool} (h : PredK P f cb S w p) (k : Keeps S w w0) (x : Sm) : ∀ W, Below w0.heap.size w0 W → Ret P f (#[.agg (u8s x.l)] ++ cb) W (Ty.ex (.bool (p x))) := fun W hb => h W x (k.trans (Keeps.of_below hb))
/-- The first that passes, or -1. -/
def FirstP (D : List Sm) (p : Sm → Bool) (r : Int) : Prop := (∃ k : Nat, r = (k : Int) ∧ k < D.length ∧ p (D.getD k default) = true ∧ ∀ j, j < k → p (D.getD j default) = false) ∨ (r = -1 ∧ ∀ j, j < D.length → p (D.getD j default) = false)
theorem first_is (D : List Sm) (p : Sm → Bool) : ∃ r, FirstP D p r := by
  suffices h : ∀ m, m ≤ D.length → (∃ r, FirstP D p r) ∨ ∀ j, j < m → p (D.getD j default) = false by
    rcases h D.length (Nat.le_refl _) with h | h
    · exact h
    · exact ⟨-1, .inr ⟨rfl, h⟩⟩
  intro m
  induction m with
  | zero => intro _; exact .inr fun j hj => by omega
  | succ m ih =>
    intro hm
    rcases ih (by omega) with h | h
    · exact .inl h
    · cases hp : p (D.getD m default) with
      | true => exact .inl ⟨_, .inl ⟨m, rfl, by omega, hp, h⟩⟩
      | false =>
        refine .inr fun j hj => ?_
        by_cases hjm : j = m
        · subst hjm; exact hp
        · exact h j (by omega)

set_option maxRecDepth 100000 in
theorem indexf_any {f : FuncId} {cb : Array Value} {S : List Nat} {p : Sm → Bool} (he : Enters Tryz.prog f) (D : List Sm) (w : World) (v : Value) (hv : (Ty.sums 36 D).p w v) (hD : D.length ≤ 1000000) (hp : PredK Tryz.prog f cb S w p) {r : Int} (hr : FirstP D p r) :
    Ret Tryz.prog 89 #[v, .func (.func f) #[] cb] w (Ty.ex (.int .i64 r)) := by
  generalize hfv : (Value.func (.func f) #[] cb) = fv
  refine enter_ty 19 [Ty.ex v, Ty.ex fv] Tryz.func89 rfl (by kernel_rfl) ⟨rfl, rfl, trivial⟩ fun a hF => ?_
  subst hfv
  have hB := Below.refl w.heap.size w
  repeat with_reducible refine wp_seq ?_
  refine' reg_all hF ?_ mixed (by kernel_rfl) ?_
  rotate_left
  · repeat (first | exact Line.nil | ((refine' Line.cons rfl (.run rfl rfl ?_) ?_); (any_goals exact cAssign rfl rfl); rotate_left))
  intro a w1 hF hb hN
  have hBs := hB.size
  replace hB := hB.trans (hb.mono hB.size)
  dsimp only [ext, Option.getD] at hF
  repeat with_reducible first | refine wp_seq ?_ | refine nThen ?_
  refine' reg_all hF ?_ mixed (by kernel_rfl) ?_
  rotate_left
  · repeat (first | exact Line.nil | ((refine' Line.cons rfl (.run rfl rfl ?_) ?_); (any_goals (first | exact cLenH rfl (.l rfl ((Ty.sums 36 D).below hv hB)) (Ty.sl_isSl _ _ _) Tryz.underlying32 | exact cMove rfl rfl)); rotate_left))
  intro a w2 hF hb hN
  have hBs := hB.size
  replace hB := hB.trans (hb.mono hB.size)
  dsimp only [ext, Option.getD] at hF
  repeat with_reducible first | refine nThen ?_ | refine wp_block ?_
  refine loop_ty (fun m a wr => ∃ k : Nat, k + m = D.length ∧ Fr 19 [(0, Ty.ex v), (1, Ty.ex (.func (.func f) #[] cb)), (7, Ty.ex (.int .i64 (D.length : Int))), (8, Ty.ex (.int .i64 (k : Int)))] a wr ∧ Below w.heap.size w wr ∧ ∀ j, j < k → p (D.getD j default) = false) D.length ?_ ?_
  · exact ⟨0, by omega, hF.keep [0, 1, 7, 8], hB, fun j hj => by omega⟩
  clear hF hB
  rintro m a wr ⟨k, hk, hF, hB, hlo⟩
  repeat with_reducible refine wp_seq ?_
  refine' reg_all hF ?_ mixed (by kernel_rfl) ?_
  rotate_left
  · repeat (first | exact Line.nil | ((refine' Line.cons rfl (.run rfl rfl ?_) ?_); (any_goals exact cLss rfl rfl rfl); rotate_left))
  intro a w3 hF hb hN
  have hBs := hB.size
  replace hB := hB.trans (hb.mono hB.size)
  dsimp only [ext, Option.getD] at hF
  repeat with_reducible first | refine wp_seq ?_ | refine nThen ?_
  refine cond_ty hF rfl (fun hlt => ?_) (fun hge => ?_)
  · have hlt : k < D.length := by have := of_decide_eq_true hlt; omega
    repeat with_reducible first | refine wp_seq ?_ | refine nThen ?_ | refine wp_skip ?_ | refine wp_block ?_
    refine' reg_all hF ?_ mixed (by kernel_rfl) ?_
    rotate_left
    · repeat (first | exact Line.nil | ((refine' Line.cons rfl (.run rfl rfl ?_) ?_); (any_goals (first | exact cMove rfl rfl | exact cAssign rfl rfl)); rotate_left))
    intro a w4 hF hb hN
    have hBs := hB.size
    replace hB := hB.trans (hb.mono hB.size)
    dsimp only [ext, Option.getD] at hF
    repeat with_reducible first | refine wp_seq ?_ | refine nThen ?_
    refine' reg_all hF ?_ mixed (by kernel_rfl) ?_
    rotate_left
    · repeat (first | exact Line.nil | ((refine' Line.cons rfl (.run rfl rfl ?_) ?_); (any_goals (first | exact cIndexSum (k := k) rfl (.l rfl ((Ty.sums 36 D).below hv hB)) rfl Tryz.underlying32 sizeS hlt | exact cLoadSum rfl (.t rfl) Tryz.underlying36 sizeS | exact cCallC1 rfl rfl rfl he (hp.at_ (Keeps.of_below hB) _) | exact cMove rfl rfl)); rotate_left))
    intro a w5 hF hb hN
    have hBs := hB.size
    replace hB := hB.trans (hb.mono hB.size)
    dsimp only [ext, Option.getD] at hF
    repeat with_reducible refine nThen ?_
    refine cond_ty hF rfl (fun hc => ?_) (fun hc => ?_)
    · repeat with_reducible refine wp_seq ?_
      refine' reg_all hF ?_ mixed (by kernel_rfl) ?_
      rotate_left
      · repeat (first | exact Line.nil | ((refine' Line.cons rfl (.run rfl rfl ?_) ?_); (any_goals (first | exact cMove rfl rfl | exact cAssign rfl rfl)); rotate_left))
      intro a w6 hF hb hN
      have hBs := hB.size
      replace hB := hB.trans (hb.mono hB.size)
      dsimp only [ext, Option.getD] at hF
      repeat with_reducible first | refine nThen ?_ | refine wp_ret ?_ | refine rThen ?_ | refine rBlk ?_
      refine ret1 hF rfl rfl fun z hz => ?_
      refine ⟨z, rfl, ?_, hB⟩
      have hrk : r = (k : Int) := by
        rcases hr with ⟨k', e1, e2, e3, e4⟩ | ⟨e1, e2⟩
        · rcases Nat.lt_trichotomy k k' with h | h | h
          · rw [e4 k h] at hc; cases hc
          · rw [e1, h]
          · rw [hlo k' h] at e3; cases e3
        · rw [e2 k hlt] at hc; cases hc
      rw [hrk]; exact hz
    · repeat with_reducible first | refine nThen ?_ | refine nBlk ?_ | refine wp_skip ?_
      refine' reg_all hF ?_ mixed (by kernel_rfl) ?_
      rotate_left
      · repeat (first | exact Line.nil | ((refine' Line.cons rfl (.run rfl rfl ?_) ?_); (any_goals (first | exact cAdd (r := ((k + 1 : Nat) : Int)) rfl rfl rfl (by omega) | exact cMove rfl rfl)); rotate_left))
      intro a w6 hF hb hN
      have hBs := hB.size
      replace hB := hB.trans (hb.mono hB.size)
      dsimp only [ext, Option.getD] at hF
      repeat with_reducible refine nThen ?_
      refine ⟨m - 1, by omega, k + 1, by omega, hF.keep [0, 1, 7, 8], hB, fun j hj => ?_⟩
      by_cases hjk : j = k
      · subst hjk; exact hc
      · exact hlo j (by omega)
  · have hge : ¬ k < D.length := by have := of_decide_eq_false hge; omega
    repeat with_reducible first | refine wp_seq ?_ | refine nThen ?_ | refine wp_exit ?_ | refine xThen ?_ | refine xHere ?_
    refine' reg_all hF ?_ mixed (by kernel_rfl) ?_
    rotate_left
    · repeat (first | exact Line.nil | ((refine' Line.cons rfl (.run rfl rfl ?_) ?_); (any_goals exact cAssign rfl rfl); rotate_left))
    intro a w4 hF hb hN
    have hBs := hB.size
    replace hB := hB.trans (hb.mono hB.size)
    dsimp only [ext, Option.getD] at hF
    repeat with_reducible first | refine nThen ?_ | refine wp_ret ?_
    refine ret1 hF rfl rfl fun z hz => ?_
    refine ⟨z, rfl, ?_, hB⟩
    have hrk : r = -1 := by
      rcases hr with ⟨k', e1, e2, e3, e4⟩ | ⟨e1, e2⟩
      · rw [hlo k' (by omega)] at e3; cases e3
      · exact e1
    rw [hrk]; exact hz

theorem filt_snoc_in {D : List Sm} {p : Sm → Bool} {m : Nat} (h : m < D.length) (hp : p (D.getD m default) = false) : (D.take (m + 1)).filter (fun x => !p x) = (D.take m).filter (fun x => !p x) ++ [D.getD m default] := by
  rw [take_snoc' D h, List.filter_append]
  generalize D.getD m default = x at *
  simp [hp]
theorem filt_snoc_out {D : List Sm} {p : Sm → Bool} {m : Nat} (h : m < D.length) (hp : p (D.getD m default) = true) : (D.take (m + 1)).filter (fun x => !p x) = (D.take m).filter (fun x => !p x) := by
  rw [take_snoc' D h, List.filter_append]
  generalize D.getD m default = x at *
  simp [hp]
theorem filt_pre {D : List Sm} {p : Sm → Bool} : ∀ {m : Nat}, m ≤ D.length → (∀ j, j < m → p (D.getD j default) = false) → (D.take m).filter (fun x => !p x) = D.take m
  | 0, _, _ => rfl
  | m + 1, h, hp => by rw [filt_snoc_in h (hp m (by omega)), filt_pre (by omega) fun j hj => hp j (by omega), take_snoc' D h]

set_option maxRecDepth 100000 in
set_option maxHeartbeats 2000000 in
theorem delete_any {f : FuncId} {cb : Array Value} {p : Sm → Bool} (he : Enters Tryz.prog f) (D : List Sm) (w : World) (g off cap : Nat) (hs0 : SegL w 36 32 g off D.length cap (flat D)) (hD : D.length ≤ 1000000) (hp : PredK Tryz.prog f cb [g] w p) :
    Calls Tryz.prog 71 #[.slice (some ⟨g, off, none⟩) D.length cap, .func (.func f) #[] cb] w fun e w' => ∃ k, e = .returned (.slice (some ⟨g, off, none⟩) k cap) ∧ k = (D.filter fun x => !p x).length ∧ SegL w' 36 32 g off k cap (flat (D.filter fun x => !p x)) ∧ Keeps [g] w w' := by
  have hcap : D.length ≤ cap := hs0.2.1
  obtain ⟨r, hr⟩ := first_is D p
  generalize hfv : (Value.func (.func f) #[] cb) = fv
  refine enter_ty 42 [Ty.ex (.slice (some ⟨g, off, none⟩) D.length cap), Ty.ex fv] Tryz.func71 rfl (by kernel_rfl) ⟨rfl, rfl, trivial⟩ fun a hF => ?_
  subst hfv
  have hB := Below.refl w.heap.size w
  repeat with_reducible refine wp_seq ?_
  refine' reg_all hF ?_ mixed (by kernel_rfl) ?_
  rotate_left
  · repeat (first | exact Line.nil | ((refine' Line.cons rfl (.run rfl rfl ?_) ?_); (any_goals exact cAssign rfl rfl); rotate_left))
  intro a w1 hF hb hN
  have hBs := hB.size
  replace hB := hB.trans (hb.mono hB.size)
  dsimp only [ext, Option.getD] at hF
  repeat with_reducible first | refine wp_seq ?_ | refine nThen ?_
  have hei : Enters Tryz.prog 89 := fun args w => by kernel_rfl
  refine' reg_all hF ?_ mixed (by kernel_rfl) ?_
  rotate_left
  · repeat (first | exact Line.nil | ((refine' Line.cons rfl (.run rfl rfl ?_) ?_); (any_goals (first | exact cCallW2 rfl rfl rfl hei (fun W x y hb hx hy => by have hx : x = .slice (some ⟨g, off, none⟩) D.length cap := hx; have hy : y = .func (.func f) #[] cb := hy; subst hx hy; exact indexf_any he D W _ ((hs0.below hB).below hb).sl hD ((hp.later (Keeps.of_below hB)).later (Keeps.of_below hb)) hr) | exact cMove rfl rfl | exact cAssign rfl rfl)); rotate_left))
  intro a w2 hF hb hN
  have hBs := hB.size
  replace hB := hB.trans (hb.mono hB.size)
  dsimp only [ext, Option.getD] at hF
  repeat with_reducible first | refine wp_seq ?_ | refine nThen ?_
  refine' reg_all hF ?_ mixed (by kernel_rfl) ?_
  rotate_left
  · repeat (first | exact Line.nil | ((refine' Line.cons rfl (.run rfl rfl ?_) ?_); (any_goals (first | exact cMove rfl rfl | exact cEql rfl rfl rfl)); rotate_left))
  intro a w3 hF hb hN
  have hBs := hB.size
  replace hB := hB.trans (hb.mono hB.size)
  dsimp only [ext, Option.getD] at hF
  repeat with_reducible refine nThen ?_
  rcases hr with ⟨k, rfl, hk, hpk, hlo⟩ | ⟨rfl, hall⟩
  rotate_left
  · refine cond_t hF rfl ?_
    repeat with_reducible refine wp_seq ?_
    refine' reg_all hF ?_ mixed (by kernel_rfl) ?_
    rotate_left
    · repeat (first | exact Line.nil | ((refine' Line.cons rfl (.run rfl rfl ?_) ?_); (any_goals (first | exact cMove rfl rfl | exact cAssign rfl rfl)); rotate_left))
    intro a w4 hF hb hN
    have hBs := hB.size
    replace hB := hB.trans (hb.mono hB.size)
    dsimp only [ext, Option.getD] at hF
    repeat with_reducible first | refine nThen ?_ | refine wp_ret ?_ | refine rThen ?_
    refine ret1 hF rfl rfl fun z hz => ?_
    have hz : z = .slice (some ⟨g, off, none⟩) D.length cap := hz
    subst hz
    have hfd : (D.filter fun x => !p x) = D := by have := filt_pre (Nat.le_refl _) hall; rwa [List.take_length] at this
    rw [hfd]
    exact ⟨D.length, rfl, rfl, hs0.below hB, Keeps.of_below hB⟩
  refine cond_ty hF rfl (fun hbad => absurd (of_decide_eq_true hbad) (by omega)) (fun _ => ?_)
  repeat with_reducible first | refine wp_seq ?_ | refine nThen ?_ | refine wp_skip ?_
  refine' reg_all hF ?_ mixed (by kernel_rfl) ?_
  rotate_left
  · repeat (first | exact Line.nil | ((refine' Line.cons rfl (.run rfl rfl ?_) ?_); (any_goals (first | exact cAdd (r := ((k + 1 : Nat) : Int)) rfl rfl rfl (by omega) | exact cMove rfl rfl | exact cAssign rfl rfl)); rotate_left))
  intro a w4 hF hb hN
  have hBs := hB.size
  replace hB := hB.trans (hb.mono hB.size)
  dsimp only [ext, Option.getD] at hF
  repeat with_reducible first | refine nThen ?_ | refine wp_block ?_
  refine loop_ty (fun m a wr => ∃ (i j : Nat) (E : List Sm), i + m = D.length ∧ E.length = D.length ∧ j = ((D.take i).filter fun x => !p x).length ∧ j < i ∧ E.take j = (D.take i).filter (fun x => !p x) ∧ (∀ q, i ≤ q → E.getD q default = D.getD q default) ∧
      Fr 42 [(0, Ty.ex (.slice (some ⟨g, off, none⟩) D.length cap)), (1, Ty.ex (.func (.func f) #[] cb)), (5, Ty.ex (.int .i64 (j : Int))), (6, Ty.ex (.int .i64 (i : Int)))] a wr ∧ SegL wr 36 32 g off D.length cap (flat E) ∧ Keeps [g] w wr) (D.length - (k + 1)) ?_ ?_
  · have hpre := filt_pre (D := D) (p := p) (m := k) (by omega) hlo
    refine ⟨k + 1, k, D, by omega, rfl, ?_, by omega, ?_, fun _ _ => rfl, hF.keep [0, 1, 5, 6], hs0.below hB, Keeps.of_below hB⟩
    · rw [filt_snoc_out hk hpk, hpre]; simp; omega
    · rw [filt_snoc_out hk hpk, hpre]
  clear hF hB hs0
  rintro m a wr ⟨i, j, E, hi, hE, hj, hji, hjt, hsame, hF, hseg, hKw⟩
  have hB := Below.refl wr.heap.size wr
  repeat with_reducible refine wp_seq ?_
  refine' reg_all hF ?_ mixed (by kernel_rfl) ?_
  rotate_left
  · repeat (first | exact Line.nil | ((refine' Line.cons rfl (.run rfl rfl ?_) ?_); (any_goals (first | exact cLenEx rfl rfl Tryz.underlying32 | exact cMove rfl rfl | exact cLss rfl rfl rfl)); rotate_left))
  intro a w8 hF hb hN
  have hBs := hB.size
  replace hB := hB.trans (hb.mono hB.size)
  dsimp only [ext, Option.getD] at hF
  repeat with_reducible refine nThen ?_
  refine cond_ty hF rfl (fun hlt => ?_) (fun hge => ?_)
  rotate_left
  · have hge : ¬ i < D.length := by have := of_decide_eq_false hge; omega
    obtain rfl : i = D.length := by omega
    rw [List.take_length] at hj hjt
    have hjn : j < D.length := hji
    repeat with_reducible first | refine wp_seq ?_ | refine nThen ?_ | refine wp_exit ?_ | refine xThen ?_ | refine xHere ?_
    refine' region_ty 3 mixed (by kernel_rfl) hF ?_ ?_
    rotate_left
    · simp only [List.take_succ_cons, List.take_zero]
      repeat (first | exact Line.nil | ((refine' Line.cons rfl (.run rfl rfl ?_) ?_); (any_goals (first | exact cSliceLoEx rfl rfl rfl Tryz.underlying32 sizeS hjn hcap | exact cMove rfl rfl)); rotate_left))
    intro a w9 hF hb hN
    have hBs := hB.size
    replace hB := hB.trans (hb.mono hB.size)
    simp only [List.take_succ_cons, List.take_zero, List.drop_succ_cons, List.drop_zero] at hF hN ⊢
    dsimp only [ext, Option.getD] at hF
    refine tlClear (Δ := [(0, Ty.ex (.slice (some ⟨g, off, none⟩) D.length cap)), (5, Ty.ex (.int .i64 (j : Int)))]) (k := j) hF rfl rfl rfl rfl Tryz.underlying32 infoS zero32_size zeroS_one (hseg.below hB) (by omega) (hF.keep [0, 5]) rfl ?_
    intro w10 zs hzl hF hseg2 hk2
    refine wpList_nil ?_
    repeat with_reducible first | refine wp_seq ?_ | refine nThen ?_
    replace hKw : Keeps [g] w w10 := (hKw.trans (Keeps.of_below hB)).trans hk2
    have hB := Below.refl w10.heap.size w10
    refine' reg_all hF ?_ mixed (by kernel_rfl) ?_
    rotate_left
    · repeat (first | exact Line.nil | ((refine' Line.cons rfl (.run rfl rfl ?_) ?_); (any_goals (first | exact cSliceHiEx rfl rfl rfl Tryz.underlying32 sizeS (by omega) | exact cMove rfl rfl | exact cAssign rfl rfl)); rotate_left))
    intro a w11 hF hb hN
    have hBs := hB.size
    replace hB := hB.trans (hb.mono hB.size)
    dsimp only [ext, Option.getD] at hF
    repeat with_reducible first | refine nThen ?_ | refine wp_ret ?_
    refine ret1 hF rfl rfl fun z hz => ?_
    have hz : z = .slice (some ⟨g, off, none⟩) j cap := hz
    subst hz
    refine ⟨j, rfl, hj, ?_, hKw.trans (Keeps.of_below hB)⟩
    have h5 := (hseg2.below hB).take (k := j) (by omega)
    have h6 : (over (flat E) (j * 32) zs).take (j * 32) = flat (D.filter fun x => !p x) := by
      unfold over
      rw [List.append_assoc, List.take_append_of_le_length (by rw [List.length_take, flat_len]; omega), List.take_take, Nat.min_self, flat_take, hjt]
    rwa [h6] at h5
  have hlt : i < D.length := by have := of_decide_eq_true hlt; omega
  have hB8 := hB.size
  have hg8 : g < w8.heap.size := (hseg.below hB).lt
  have hsE : (Ty.sums 36 E).p w8 (.slice (some ⟨g, off, none⟩) D.length cap) := by
    have h := (hseg.below hB).sl
    rw [← hE] at h ⊢
    exact h
  have e1 : E.getD i default = D.getD i default := hsame i (Nat.le_refl _)
  repeat with_reducible first | refine wp_seq ?_ | refine nThen ?_ | refine wp_skip ?_ | refine wp_block ?_
  refine' region_ty 5 mixed (by kernel_rfl) hF ?_ ?_
  rotate_left
  · simp only [List.take_succ_cons, List.take_zero]
    repeat (first
        | exact Line.nil
        | (refine' Line.cons rfl (.new rfl rfl ((run_alloc_i infoS)) rfl) ?_; rotate_left)
        | ((refine' Line.cons rfl (.run rfl rfl ?_) ?_)
           any_goals (first | exact cIndexSum (k := i) rfl (.l rfl hsE) rfl Tryz.underlying32 sizeS (by omega) | exact cLoadSum rfl (.t rfl) Tryz.underlying36 sizeS | exact cMove rfl rfl)
           rotate_left))
  intro a w9 hF hb hN
  have hBs := hB.size
  replace hB := hB.trans (hb.mono hB.size)
  simp only [List.take_succ_cons, List.take_zero, List.drop_succ_cons, List.drop_zero] at hF hN ⊢
  dsimp only [ext, Option.getD] at hF
  rw [e1] at hF
  have hB8 : wr.heap.size ≤ w8.heap.size := hB8
  obtain ⟨z, ⟨gx, rfl, hgx, hbx⟩, hF⟩ := hF.open (s := 7) rfl
  have hgx : w8.heap.size ≤ gx := hgx
  refine tlStoreV (Δ := [(0, Ty.ex (.slice (some ⟨g, off, none⟩) D.length cap)), (1, Ty.ex (.func (.func f) #[] cb)), (5, Ty.ex (.int .i64 (j : Int))), (6, Ty.ex (.int .i64 (i : Int))), (7, Ty.ex (.pointer (some ⟨gx, 0, none⟩)))]) hF rfl rfl rfl rfl (hF.getEx (s := 25) rfl) hbx (by show (u8s _).size = (u8s _).size; rw [u8s_size, u8s_size, Sm.len]; rfl) (by show _ = some (u8s _).size; rw [u8s_size, Sm.len]; exact sizeS) (u8s_one _) (hF.keep [0, 1, 5, 6, 7]) rfl ?_
  intro w10 hF hbx hkx
  refine wpList_nil ?_
  repeat with_reducible first | refine wp_seq ?_ | refine nThen ?_
  have hseg := (hseg.below hB).keeps hkx (by simp; omega)
  replace hKw : Keeps [g] w w10 := (hKw.trans (Keeps.of_below hB)).trans' hkx (fun x hx => by simp only [List.mem_singleton] at hx; subst hx; exact .inr (Nat.le_trans (Nat.le_trans hKw.size hB8) hgx))
  have hp9 := hp.later hKw
  have hB := Below.refl w10.heap.size w10
  have hax : (Ty.at_ 36 (D.getD i default).enc).p w10 (.pointer (some ⟨gx, 0, none⟩)) := by
    have h := blk_at hbx
    rwa [show (Value.agg (u8s (D.getD i default).l)).cells.toList = (D.getD i default).enc from u8s_list _] at h
  refine' reg_all hF ?_ mixed (by kernel_rfl) ?_
  rotate_left
  · repeat (first | exact Line.nil | ((refine' Line.cons rfl (.run rfl rfl ?_) ?_); (any_goals (first | exact cLoadSum rfl (.l rfl hax) Tryz.underlying36 sizeS | exact cCallC1 rfl rfl rfl he (hp9.at_ (Keeps.of_below hB) _) | exact cMove rfl rfl | exact cNot rfl rfl)); rotate_left))
  intro a w11 hF hb hN
  have hBs := hB.size
  replace hB := hB.trans (hb.mono hB.size)
  dsimp only [ext, Option.getD] at hF
  repeat with_reducible refine nThen ?_
  refine cond_ty hF rfl (fun hc => ?_) (fun hc => ?_)
  · have hc : p (D.getD i default) = false := by simpa using hc
    have hdd2 := filt_snoc_in hlt hc
    have hax := (Ty.at_ 36 (D.getD i default).enc).below hax hB
    repeat with_reducible refine wp_seq ?_
    refine' region_ty 4 mixed (by kernel_rfl) hF ?_ ?_
    rotate_left
    · simp only [List.take_succ_cons, List.take_zero]
      repeat (first | exact Line.nil | ((refine' Line.cons rfl (.run rfl rfl ?_) ?_); (any_goals (first | exact cLoadSum rfl (.l rfl hax) Tryz.underlying36 sizeS | exact cIndexEx (k := j) rfl rfl rfl Tryz.underlying32 sizeS (by omega) | exact cMove rfl rfl)); rotate_left))
    intro a w12 hF hb hN
    have hBs := hB.size
    replace hB := hB.trans (hb.mono hB.size)
    simp only [List.take_succ_cons, List.take_zero, List.drop_succ_cons, List.drop_zero] at hF hN ⊢
    dsimp only [ext, Option.getD] at hF
    refine tlStoreAt (Δ := [(0, Ty.ex (.slice (some ⟨g, off, none⟩) D.length cap)), (1, Ty.ex (.func (.func f) #[] cb)), (5, Ty.ex (.int .i64 (j : Int))), (6, Ty.ex (.int .i64 (i : Int)))]) (k := j * 32) hF rfl rfl rfl rfl rfl (hseg.below hB) (by rw [u8s_size, Sm.len]; omega) (by rw [u8s_size, Sm.len]; exact sizeS) (u8s_one _) (hF.keep [0, 1, 5, 6]) rfl ?_
    intro w13 hF hseg2 hk2
    refine wpList_nil ?_
    repeat with_reducible refine nThen ?_
    replace hKw : Keeps [g] w w13 := (hKw.trans (Keeps.of_below hB)).trans hk2
    have hB := Below.refl w13.heap.size w13
    refine' reg_all hF ?_ mixed (by kernel_rfl) ?_
    rotate_left
    · repeat (first | exact Line.nil | ((refine' Line.cons rfl (.run rfl rfl ?_) ?_); (any_goals (first | exact cAdd (r := ((j + 1 : Nat) : Int)) rfl rfl rfl (by omega) | exact cMove rfl rfl | exact cAssign rfl rfl)); rotate_left))
    intro a w14 hF hb hN
    have hBs := hB.size
    replace hB := hB.trans (hb.mono hB.size)
    dsimp only [ext, Option.getD] at hF
    repeat with_reducible first | refine nThen ?_ | refine nBlk ?_
    refine' reg_all hF ?_ mixed (by kernel_rfl) ?_
    rotate_left
    · repeat (first | exact Line.nil | ((refine' Line.cons rfl (.run rfl rfl ?_) ?_); (any_goals (first | exact cAdd (r := ((i + 1 : Nat) : Int)) rfl rfl rfl (by omega) | exact cMove rfl rfl | exact cAssign rfl rfl)); rotate_left))
    intro a w15 hF hb hN
    have hBs := hB.size
    replace hB := hB.trans (hb.mono hB.size)
    dsimp only [ext, Option.getD] at hF
    repeat with_reducible refine nThen ?_
    have h7 : over (flat E) (j * 32) (u8s (D.getD i default).l).toList = flat (E.set j (D.getD i default)) := by
      rw [u8s_list]
      exact over_flat E _ (by omega)
    rw [h7] at hseg2
    refine ⟨m - 1, by omega, i + 1, j + 1, E.set j (D.getD i default), by omega, by simp [hE], ?_, by omega, ?_, fun q hq => ?_, hF.keep [0, 1, 5, 6], hseg2.below hB, hKw.trans (Keeps.of_below hB)⟩
    · rw [hdd2, List.length_append, ← hj]; rfl
    · rw [hdd2, ← hjt, take_snoc' _ (by rw [List.length_set]; omega), getD_set E _ (by omega), if_pos rfl, List.take_set_of_le (Nat.le_refl _)]
    · rw [getD_set E _ (by omega), if_neg (by omega)]
      exact hsame q (by omega)
  · have hc : p (D.getD i default) = true := by simpa using hc
    have hdd2 := filt_snoc_out hlt hc
    repeat with_reducible first | refine nThen ?_ | refine nBlk ?_ | refine wp_skip ?_
    refine' reg_all hF ?_ mixed (by kernel_rfl) ?_
    rotate_left
    · repeat (first | exact Line.nil | ((refine' Line.cons rfl (.run rfl rfl ?_) ?_); (any_goals (first | exact cAdd (r := ((i + 1 : Nat) : Int)) rfl rfl rfl (by omega) | exact cMove rfl rfl | exact cAssign rfl rfl)); rotate_left))
    intro a w12 hF hb hN
    have hBs := hB.size
    replace hB := hB.trans (hb.mono hB.size)
    dsimp only [ext, Option.getD] at hF
    repeat with_reducible refine nThen ?_
    exact ⟨m - 1, by omega, i + 1, j, E, by omega, hE, by rw [hdd2]; exact hj, by omega, by rw [hdd2]; exact hjt, fun q hq => hsame q (by omega), hF.keep [0, 1, 5, 6], hseg.below hB, hKw.trans (Keeps.of_below hB)⟩

set_option maxRecDepth 100000 in
theorem delete_none {f : FuncId} {cb : Array Value} {p : Sm → Bool} (he : Enters Tryz.prog f) (w : World) (hp : PredK Tryz.prog f cb [] w p) :
    Ret Tryz.prog 71 #[.slice none 0 0, .func (.func f) #[] cb] w (Ty.ex (.slice none 0 0)) := by
  generalize hfv : (Value.func (.func f) #[] cb) = fv
  refine enter_ty 42 [Ty.ex (.slice none 0 0), Ty.ex fv] Tryz.func71 rfl (by kernel_rfl) ⟨rfl, rfl, trivial⟩ fun a hF => ?_
  subst hfv
  have hB := Below.refl w.heap.size w
  repeat with_reducible refine wp_seq ?_
  refine' reg_all hF ?_ mixed (by kernel_rfl) ?_
  rotate_left
  · repeat (first | exact Line.nil | ((refine' Line.cons rfl (.run rfl rfl ?_) ?_); (any_goals exact cAssign rfl rfl); rotate_left))
  intro a w1 hF hb hN
  have hBs := hB.size
  replace hB := hB.trans (hb.mono hB.size)
  dsimp only [ext, Option.getD] at hF
  repeat with_reducible first | refine wp_seq ?_ | refine nThen ?_
  have hei : Enters Tryz.prog 89 := fun args w => by kernel_rfl
  have h0 : ∀ W : World, (Ty.sums 36 []).p W (.slice none 0 0) := fun W => (Seg.nil W 36 32).sl
  refine' reg_all hF ?_ mixed (by kernel_rfl) ?_
  rotate_left
  · repeat (first | exact Line.nil | ((refine' Line.cons rfl (.run rfl rfl ?_) ?_); (any_goals (first | exact cCallW2 rfl rfl rfl hei (fun W x y hb hx hy => by have hx : x = .slice none 0 0 := hx; have hy : y = .func (.func f) #[] cb := hy; subst hx hy; exact indexf_any he [] W _ (h0 W) (by simp) ((hp.later (Keeps.of_below hB)).later (Keeps.of_below hb)) (r := -1) (.inr ⟨rfl, fun j hj => by simp at hj⟩)) | exact cMove rfl rfl | exact cAssign rfl rfl)); rotate_left))
  intro a w2 hF hb hN
  have hBs := hB.size
  replace hB := hB.trans (hb.mono hB.size)
  dsimp only [ext, Option.getD] at hF
  repeat with_reducible first | refine wp_seq ?_ | refine nThen ?_
  refine' reg_all hF ?_ mixed (by kernel_rfl) ?_
  rotate_left
  · repeat (first | exact Line.nil | ((refine' Line.cons rfl (.run rfl rfl ?_) ?_); (any_goals (first | exact cMove rfl rfl | exact cEql rfl rfl rfl)); rotate_left))
  intro a w3 hF hb hN
  have hBs := hB.size
  replace hB := hB.trans (hb.mono hB.size)
  dsimp only [ext, Option.getD] at hF
  repeat with_reducible refine nThen ?_
  refine cond_t hF rfl ?_
  repeat with_reducible refine wp_seq ?_
  refine' reg_all hF ?_ mixed (by kernel_rfl) ?_
  rotate_left
  · repeat (first | exact Line.nil | ((refine' Line.cons rfl (.run rfl rfl ?_) ?_); (any_goals (first | exact cMove rfl rfl | exact cAssign rfl rfl)); rotate_left))
  intro a w4 hF hb hN
  have hBs := hB.size
  replace hB := hB.trans (hb.mono hB.size)
  dsimp only [ext, Option.getD] at hF
  repeat with_reducible first | refine nThen ?_ | refine wp_ret ?_ | refine rThen ?_
  refine ret1 hF rfl rfl fun z hz => ?_
  exact ⟨z, rfl, hz, hB⟩
end Go.Proofs.YtmlbkcpmgcjblaaGreat

/- Layer 10: the walks of Minus, Both, Either, Add. -/
namespace Go.Proofs.YtmlbkcpmgcjblaaGreat
open Go.RowKit

theorem infoSL : (Tryz.prog.info? 32).map (·.size) = some 1 := by kernel_rfl

abbrev pM (B : List Sm) (x : Sm) : Bool := decide (x ∈ B)
abbrev pB (B : List Sm) (x : Sm) : Bool := !decide (x ∈ B)
set_option maxRecDepth 100000 in
theorem minus1_ret (B : List Sm) (gb : Nat) (vb : Value) (W : World) (hs : srt B) (hBl : B.length ≤ 1000000) (hgb : Blk W gb 32 #[vb]) (hvb : (Ty.sums 36 B).p W vb) (x : Sm) :
    Ret Tryz.prog 72 (#[.agg (u8s x.l)] ++ #[.pointer (some ⟨gb, 0, none⟩)]) W (Ty.ex (.bool (pM B x))) := by
  have hh := hasI_ty B x hBl hs
  unfold pM
  generalize decide (x ∈ B) = r at *
  refine enter_ty 7 [Ty.ex (.agg (u8s x.l)), Ty.ex (.pointer (some ⟨gb, 0, none⟩))] Tryz.func72 rfl (by kernel_rfl) ⟨rfl, rfl, trivial⟩ fun a hF => ?_
  have hB := Below.refl W.heap.size W
  repeat with_reducible refine wp_seq ?_
  refine' reg_all hF ?_ mixed (by kernel_rfl) ?_
  rotate_left
  · repeat (first | exact Line.nil | ((refine' Line.cons rfl (.run rfl rfl ?_) ?_); (any_goals (first | exact cAssign rfl rfl | exact cBoxSum rfl rfl)); rotate_left))
  intro a w1 hF hb hN
  have hBs := hB.size
  replace hB := hB.trans (hb.mono hB.size)
  dsimp only [ext, Option.getD] at hF
  repeat with_reducible first | refine wp_seq ?_ | refine nThen ?_
  have hab : (Ty.at_ 32 [vb]).p w1 (.pointer (some ⟨gb, 0, none⟩)) := blk_at (hgb.below hB)
  have hvb1 : (Ty.sums 36 B).p w1 vb := (Ty.sums 36 B).below hvb hB
  refine' reg_all hF ?_ mixed (by kernel_rfl) ?_
  rotate_left
  · repeat (first | exact Line.nil | ((refine' Line.cons rfl (.run rfl rfl ?_) ?_); (any_goals (first | exact cAssign rfl rfl | exact cLoadSum rfl (.t rfl) Tryz.underlying36 sizeS | exact cLoad1 rfl (.l rfl hab) (pts_at _ _) Tryz.underlying32 rfl | exact cCallH2 rfl (.l rfl hvb1) (.t rfl) hh)); rotate_left))
  intro a w2 hF hb hN
  have hBs := hB.size
  replace hB := hB.trans (hb.mono hB.size)
  dsimp only [ext, Option.getD] at hF
  repeat with_reducible first | refine nThen ?_ | refine wp_ret ?_
  refine ret1 hF rfl rfl fun z hz => ?_
  exact ⟨z, rfl, hz, hB⟩

def minusL (A B : List Sm) : List Sm := (setL A).filter fun x => !pM (setL B) x
set_option maxRecDepth 100000 in
set_option maxHeartbeats 1000000 in
theorem minus_ty (A B : List Sm) (hA : A.length ≤ 1000000) (hBl : B.length ≤ 1000000) : FnSeg2 Tryz.prog 42 (Ty.sums 36 A) (Ty.sums 36 B) 36 32 (minusL A B).length (flat (minusL A B)) := by
  refine ⟨fun args w => by kernel_rfl, fun w v u hv hu => ?_⟩
  have hu' := hu
  obtain ⟨Au, cu, rfl, -⟩ := hu'
  refine enter_ty 11 [Ty.ex v, Ty.ex (.slice Au B.length cu)] Tryz.func42 rfl (by kernel_rfl) ⟨rfl, rfl, trivial⟩ fun a hF => ?_
  have hB := Below.refl w.heap.size w
  repeat with_reducible refine wp_seq ?_
  refine' reg_all hF ?_ mixed (by kernel_rfl) ?_
  rotate_left
  · repeat (first | exact Line.nil | ((refine' Line.cons rfl (.run rfl rfl ?_) ?_); (any_goals (first | exact cAssign rfl rfl | exact cBoxN rfl rfl)); rotate_left))
  intro a w1 hF hb hN
  have hBs := hB.size
  replace hB := hB.trans (hb.mono hB.size)
  dsimp only [ext, Option.getD] at hF
  repeat with_reducible first | refine wp_seq ?_ | refine nThen ?_
  obtain ⟨z, ⟨gb, rfl, hgb, hbb⟩, hF⟩ := hF.open (s := 3) rfl
  have hab := blk_at hbb
  have hbb0 := hbb
  refine' region_ty 2 mixed (by kernel_rfl) hF ?_ ?_
  rotate_left
  · simp only [List.take_succ_cons, List.take_zero]
    repeat (first | exact Line.nil | ((refine' Line.cons rfl (.run rfl rfl ?_) ?_); (any_goals (first | exact cLoad1 rfl (.l rfl hab) (pts_at _ _) Tryz.underlying32 rfl | exact cCallS1 rfl (.l rfl ((Ty.sums 36 B).below hu hB)) (of_ty B hBl))); rotate_left))
  intro a w2 hF hb hN
  have hBs := hB.size
  replace hB := hB.trans (hb.mono hB.size)
  simp only [List.take_succ_cons, List.take_zero, List.drop_succ_cons, List.drop_zero] at hF hN ⊢
  dsimp only [ext, Option.getD] at hF
  have hb0 := hb
  obtain ⟨vb, ⟨Sb, hsb, hSb⟩, hF⟩ := hF.open (s := 6) rfl
  obtain ⟨Ab, cb, hvb, -⟩ := hsb.form
  subst hvb
  refine tlStoreV (Δ := [(0, Ty.ex v), (3, Ty.ex (.pointer (some ⟨gb, 0, none⟩)))]) hF rfl rfl rfl rfl (hF.getEx (s := 6) rfl) (hbb.below hb) rfl infoSL (by simp [Value.cells, Value.oneCell']) (hF.keep [0, 3]) rfl ?_
  intro w3 hF hbb hkb
  refine wpList_nil ?_
  repeat with_reducible first | refine wp_seq ?_ | refine nThen ?_
  have hkw : Keeps [] w w3 := (Keeps.of_below (S := []) hB).trans' hkb (fun x hx => by simp only [List.mem_singleton] at hx; subst hx; exact .inr hgb)
  have hvb : (Ty.sums 36 (setL B)).p w3 (.slice Ab (setL B).length cb) := by
    refine (Ty.sums 36 (setL B)).st hsb.sl hkb ?_
    intro b hb _
    simp only [List.mem_singleton] at hb
    subst hb
    exact ⟨_, _, _, hbb0.below hb0, rfl⟩
  have hv3 := (Ty.sums 36 A).below hv hkw.below
  have hB3 := hkw.below.size
  have hB := Below.refl w3.heap.size w3
  refine' region_ty 3 mixed (by kernel_rfl) hF ?_ ?_
  rotate_left
  · simp only [List.take_succ_cons, List.take_zero]
    repeat (first | exact Line.nil | ((refine' Line.cons rfl (.run rfl rfl ?_) ?_); (any_goals (first | exact cMove rfl rfl | exact cCallS1 rfl (.l rfl hv3) (of_ty A hA) | exact cMakeFunc rfl rfl)); rotate_left))
  intro a w4 hF hb hN
  have hBs := hB.size
  replace hB := hB.trans (hb.mono hB.size)
  simp only [List.take_succ_cons, List.take_zero, List.drop_succ_cons, List.drop_zero] at hF hN ⊢
  dsimp only [ext, Option.getD] at hF
  obtain ⟨va, ⟨Sa, hsa, hSa⟩, hF⟩ := hF.open (s := 8) rfl
  have hen : Enters Tryz.prog 71 := fun args w => by kernel_rfl
  have heg : Enters Tryz.prog 72 := fun args w => by kernel_rfl
  have hlb := setL_len B
  have hpred : ∀ S : List Nat, (∀ y ∈ S, w3.heap.size ≤ y) → PredK Tryz.prog 72 #[.pointer (some ⟨gb, 0, none⟩)] S w4 (pM (setL B)) := fun S hS W x k => by
    have k' : Keeps [] w3 W := (Keeps.of_below (S := []) hB).trans' k fun y hy => .inr (hS y hy)
    exact minus1_ret (setL B) gb _ W (setL_srt B) (by omega) (hbb.below k'.below) ((Ty.sums 36 (setL B)).below hvb k'.below) x
  rcases hsa.cases with ⟨rfl, h0, h1, rfl⟩ | ⟨g, off, cap, rfl, rfl, hl⟩
  · refine tlCall rfl rfl rfl (args := #[.slice none 0 0, .func (.func 72) #[] #[.pointer (some ⟨gb, 0, none⟩)]]) ?_ hen (R := fun u w' => u = .slice none 0 0 ∧ Below w4.heap.size w4 w') ?_ ?_
    · simp only [List.map_toArray, List.map_cons, List.map_nil, hF.getEx (s := 8) rfl, hF.getEx (s := 9) rfl]
    · exact Calls.mono (delete_none heg w4 (hpred [] (by simp))) fun e w' ⟨u, a1, a2, a3⟩ => ⟨u, a1, a2, a3⟩
    rintro z w5 ⟨rfl, hb5⟩
    have hF := ((hF.keep []).below hb5).put (d := 10) (by decide) (Below.refl _ _) (V := Ty.ex (.slice none 0 0)) rfl
    replace hB := hB.trans (hb5.mono hB.size)
    refine' tlOp hF rfl rfl rfl ?_ ?_
    rotate_left
    · exact cAssign rfl rfl
    intro a w6 hF hb
    have hBs := hB.size
    replace hB := hB.trans (hb.mono hB.size)
    try (refine wpList_nil ?_)
    repeat with_reducible first | refine nThen ?_ | refine wp_ret ?_
    refine ret1 hF rfl rfl fun z hz => ?_
    have hz : z = .slice none 0 0 := hz
    subst hz
    have hA0 : minusL A B = [] := by
      unfold minusL
      rw [List.eq_nil_of_length_eq_zero h0]
      rfl
    rw [hA0]
    exact ⟨_, rfl, ⟨[], Seg.nil _ _ _, by simp⟩, hkw.below.trans (hB.mono hB3)⟩
  · have hg : w3.heap.size ≤ g := hSa g (by simp)
    refine tlCall rfl rfl rfl (args := #[.slice (some ⟨g, off, none⟩) (setL A).length cap, .func (.func 72) #[] #[.pointer (some ⟨gb, 0, none⟩)]]) ?_ hen (R := fun u w' => u = .slice (some ⟨g, off, none⟩) (minusL A B).length cap ∧ SegL w' 36 32 g off (minusL A B).length cap (flat (minusL A B)) ∧ Keeps [g] w4 w') ?_ ?_
    · simp only [List.map_toArray, List.map_cons, List.map_nil, hF.getEx (s := 8) rfl, hF.getEx (s := 9) rfl]
    · refine (delete_any heg (setL A) w4 g off cap hl (by have := setL_len A; omega) (hpred [g] (by simpa using hg))).mono fun e w' ⟨k, h1, h2, h3, h4⟩ => ?_
      subst h2
      exact ⟨_, h1, rfl, h3, h4⟩
    rintro z w5 ⟨rfl, hl5, hk5⟩
    have hF := ((hF.keep []).free1 hk5 hl rfl).put (d := 10) (by decide) (Below.refl _ _) (V := Ty.ex (.slice (some ⟨g, off, none⟩) (minusL A B).length cap)) rfl
    replace hB := below_own hB hk5 (by simpa using hg)
    refine' tlOp hF rfl rfl rfl ?_ ?_
    rotate_left
    · exact cAssign rfl rfl
    intro a w6 hF hb
    have hBs := hB.size
    replace hB := hB.trans (hb.mono hB.size)
    try (refine wpList_nil ?_)
    repeat with_reducible first | refine nThen ?_ | refine wp_ret ?_
    refine ret1 hF rfl rfl fun z hz => ?_
    have hz : z = .slice (some ⟨g, off, none⟩) (minusL A B).length cap := hz
    subst hz
    exact ⟨_, rfl, ⟨[g], (hl5.below hb).seg, by simp; exact Nat.le_trans hkw.size hg⟩, hkw.below.trans (hB.mono hB3)⟩
set_option maxRecDepth 100000 in
theorem both1_ret (B : List Sm) (gb : Nat) (vb : Value) (W : World) (hs : srt B) (hBl : B.length ≤ 1000000) (hgb : Blk W gb 32 #[vb]) (hvb : (Ty.sums 36 B).p W vb) (x : Sm) :
    Ret Tryz.prog 74 (#[.agg (u8s x.l)] ++ #[.pointer (some ⟨gb, 0, none⟩)]) W (Ty.ex (.bool (pB B x))) := by
  have hh := hasI_ty B x hBl hs
  unfold pB
  generalize decide (x ∈ B) = r at *
  refine enter_ty 8 [Ty.ex (.agg (u8s x.l)), Ty.ex (.pointer (some ⟨gb, 0, none⟩))] Tryz.func74 rfl (by kernel_rfl) ⟨rfl, rfl, trivial⟩ fun a hF => ?_
  have hB := Below.refl W.heap.size W
  repeat with_reducible refine wp_seq ?_
  refine' reg_all hF ?_ mixed (by kernel_rfl) ?_
  rotate_left
  · repeat (first | exact Line.nil | ((refine' Line.cons rfl (.run rfl rfl ?_) ?_); (any_goals (first | exact cAssign rfl rfl | exact cBoxSum rfl rfl)); rotate_left))
  intro a w1 hF hb hN
  have hBs := hB.size
  replace hB := hB.trans (hb.mono hB.size)
  dsimp only [ext, Option.getD] at hF
  repeat with_reducible first | refine wp_seq ?_ | refine nThen ?_
  have hab : (Ty.at_ 32 [vb]).p w1 (.pointer (some ⟨gb, 0, none⟩)) := blk_at (hgb.below hB)
  have hvb1 : (Ty.sums 36 B).p w1 vb := (Ty.sums 36 B).below hvb hB
  refine' reg_all hF ?_ mixed (by kernel_rfl) ?_
  rotate_left
  · repeat (first | exact Line.nil | ((refine' Line.cons rfl (.run rfl rfl ?_) ?_); (any_goals (first | exact cAssign rfl rfl | exact cNot rfl rfl | exact cLoadSum rfl (.t rfl) Tryz.underlying36 sizeS | exact cLoad1 rfl (.l rfl hab) (pts_at _ _) Tryz.underlying32 rfl | exact cCallH2 rfl (.l rfl hvb1) (.t rfl) hh)); rotate_left))
  intro a w2 hF hb hN
  have hBs := hB.size
  replace hB := hB.trans (hb.mono hB.size)
  dsimp only [ext, Option.getD] at hF
  repeat with_reducible first | refine nThen ?_ | refine wp_ret ?_
  refine ret1 hF rfl rfl fun z hz => ?_
  exact ⟨z, rfl, hz, hB⟩

def bothL (A B : List Sm) : List Sm := (setL A).filter fun x => !pB (setL B) x
set_option maxRecDepth 100000 in
set_option maxHeartbeats 1000000 in
theorem both_ty (A B : List Sm) (hA : A.length ≤ 1000000) (hBl : B.length ≤ 1000000) : FnSeg2 Tryz.prog 43 (Ty.sums 36 A) (Ty.sums 36 B) 36 32 (bothL A B).length (flat (bothL A B)) := by
  refine ⟨fun args w => by kernel_rfl, fun w v u hv hu => ?_⟩
  have hu' := hu
  obtain ⟨Au, cu, rfl, -⟩ := hu'
  refine enter_ty 11 [Ty.ex v, Ty.ex (.slice Au B.length cu)] Tryz.func43 rfl (by kernel_rfl) ⟨rfl, rfl, trivial⟩ fun a hF => ?_
  have hB := Below.refl w.heap.size w
  repeat with_reducible refine wp_seq ?_
  refine' reg_all hF ?_ mixed (by kernel_rfl) ?_
  rotate_left
  · repeat (first | exact Line.nil | ((refine' Line.cons rfl (.run rfl rfl ?_) ?_); (any_goals (first | exact cAssign rfl rfl | exact cBoxN rfl rfl)); rotate_left))
  intro a w1 hF hb hN
  have hBs := hB.size
  replace hB := hB.trans (hb.mono hB.size)
  dsimp only [ext, Option.getD] at hF
  repeat with_reducible first | refine wp_seq ?_ | refine nThen ?_
  obtain ⟨z, ⟨gb, rfl, hgb, hbb⟩, hF⟩ := hF.open (s := 3) rfl
  have hab := blk_at hbb
  have hbb0 := hbb
  refine' region_ty 2 mixed (by kernel_rfl) hF ?_ ?_
  rotate_left
  · simp only [List.take_succ_cons, List.take_zero]
    repeat (first | exact Line.nil | ((refine' Line.cons rfl (.run rfl rfl ?_) ?_); (any_goals (first | exact cLoad1 rfl (.l rfl hab) (pts_at _ _) Tryz.underlying32 rfl | exact cCallS1 rfl (.l rfl ((Ty.sums 36 B).below hu hB)) (of_ty B hBl))); rotate_left))
  intro a w2 hF hb hN
  have hBs := hB.size
  replace hB := hB.trans (hb.mono hB.size)
  simp only [List.take_succ_cons, List.take_zero, List.drop_succ_cons, List.drop_zero] at hF hN ⊢
  dsimp only [ext, Option.getD] at hF
  have hb0 := hb
  obtain ⟨vb, ⟨Sb, hsb, hSb⟩, hF⟩ := hF.open (s := 6) rfl
  obtain ⟨Ab, cb, hvb, -⟩ := hsb.form
  subst hvb
  refine tlStoreV (Δ := [(0, Ty.ex v), (3, Ty.ex (.pointer (some ⟨gb, 0, none⟩)))]) hF rfl rfl rfl rfl (hF.getEx (s := 6) rfl) (hbb.below hb) rfl infoSL (by simp [Value.cells, Value.oneCell']) (hF.keep [0, 3]) rfl ?_
  intro w3 hF hbb hkb
  refine wpList_nil ?_
  repeat with_reducible first | refine wp_seq ?_ | refine nThen ?_
  have hkw : Keeps [] w w3 := (Keeps.of_below (S := []) hB).trans' hkb (fun x hx => by simp only [List.mem_singleton] at hx; subst hx; exact .inr hgb)
  have hvb : (Ty.sums 36 (setL B)).p w3 (.slice Ab (setL B).length cb) := by
    refine (Ty.sums 36 (setL B)).st hsb.sl hkb ?_
    intro b hb _
    simp only [List.mem_singleton] at hb
    subst hb
    exact ⟨_, _, _, hbb0.below hb0, rfl⟩
  have hv3 := (Ty.sums 36 A).below hv hkw.below
  have hB3 := hkw.below.size
  have hB := Below.refl w3.heap.size w3
  refine' region_ty 3 mixed (by kernel_rfl) hF ?_ ?_
  rotate_left
  · simp only [List.take_succ_cons, List.take_zero]
    repeat (first | exact Line.nil | ((refine' Line.cons rfl (.run rfl rfl ?_) ?_); (any_goals (first | exact cMove rfl rfl | exact cCallS1 rfl (.l rfl hv3) (of_ty A hA) | exact cMakeFunc rfl rfl)); rotate_left))
  intro a w4 hF hb hN
  have hBs := hB.size
  replace hB := hB.trans (hb.mono hB.size)
  simp only [List.take_succ_cons, List.take_zero, List.drop_succ_cons, List.drop_zero] at hF hN ⊢
  dsimp only [ext, Option.getD] at hF
  obtain ⟨va, ⟨Sa, hsa, hSa⟩, hF⟩ := hF.open (s := 8) rfl
  have hen : Enters Tryz.prog 71 := fun args w => by kernel_rfl
  have heg : Enters Tryz.prog 74 := fun args w => by kernel_rfl
  have hlb := setL_len B
  have hpred : ∀ S : List Nat, (∀ y ∈ S, w3.heap.size ≤ y) → PredK Tryz.prog 74 #[.pointer (some ⟨gb, 0, none⟩)] S w4 (pB (setL B)) := fun S hS W x k => by
    have k' : Keeps [] w3 W := (Keeps.of_below (S := []) hB).trans' k fun y hy => .inr (hS y hy)
    exact both1_ret (setL B) gb _ W (setL_srt B) (by omega) (hbb.below k'.below) ((Ty.sums 36 (setL B)).below hvb k'.below) x
  rcases hsa.cases with ⟨rfl, h0, h1, rfl⟩ | ⟨g, off, cap, rfl, rfl, hl⟩
  · refine tlCall rfl rfl rfl (args := #[.slice none 0 0, .func (.func 74) #[] #[.pointer (some ⟨gb, 0, none⟩)]]) ?_ hen (R := fun u w' => u = .slice none 0 0 ∧ Below w4.heap.size w4 w') ?_ ?_
    · simp only [List.map_toArray, List.map_cons, List.map_nil, hF.getEx (s := 8) rfl, hF.getEx (s := 9) rfl]
    · exact Calls.mono (delete_none heg w4 (hpred [] (by simp))) fun e w' ⟨u, a1, a2, a3⟩ => ⟨u, a1, a2, a3⟩
    rintro z w5 ⟨rfl, hb5⟩
    have hF := ((hF.keep []).below hb5).put (d := 10) (by decide) (Below.refl _ _) (V := Ty.ex (.slice none 0 0)) rfl
    replace hB := hB.trans (hb5.mono hB.size)
    refine' tlOp hF rfl rfl rfl ?_ ?_
    rotate_left
    · exact cAssign rfl rfl
    intro a w6 hF hb
    have hBs := hB.size
    replace hB := hB.trans (hb.mono hB.size)
    try (refine wpList_nil ?_)
    repeat with_reducible first | refine nThen ?_ | refine wp_ret ?_
    refine ret1 hF rfl rfl fun z hz => ?_
    have hz : z = .slice none 0 0 := hz
    subst hz
    have hA0 : bothL A B = [] := by
      unfold bothL
      rw [List.eq_nil_of_length_eq_zero h0]
      rfl
    rw [hA0]
    exact ⟨_, rfl, ⟨[], Seg.nil _ _ _, by simp⟩, hkw.below.trans (hB.mono hB3)⟩
  · have hg : w3.heap.size ≤ g := hSa g (by simp)
    refine tlCall rfl rfl rfl (args := #[.slice (some ⟨g, off, none⟩) (setL A).length cap, .func (.func 74) #[] #[.pointer (some ⟨gb, 0, none⟩)]]) ?_ hen (R := fun u w' => u = .slice (some ⟨g, off, none⟩) (bothL A B).length cap ∧ SegL w' 36 32 g off (bothL A B).length cap (flat (bothL A B)) ∧ Keeps [g] w4 w') ?_ ?_
    · simp only [List.map_toArray, List.map_cons, List.map_nil, hF.getEx (s := 8) rfl, hF.getEx (s := 9) rfl]
    · refine (delete_any heg (setL A) w4 g off cap hl (by have := setL_len A; omega) (hpred [g] (by simpa using hg))).mono fun e w' ⟨k, h1, h2, h3, h4⟩ => ?_
      subst h2
      exact ⟨_, h1, rfl, h3, h4⟩
    rintro z w5 ⟨rfl, hl5, hk5⟩
    have hF := ((hF.keep []).free1 hk5 hl rfl).put (d := 10) (by decide) (Below.refl _ _) (V := Ty.ex (.slice (some ⟨g, off, none⟩) (bothL A B).length cap)) rfl
    replace hB := below_own hB hk5 (by simpa using hg)
    refine' tlOp hF rfl rfl rfl ?_ ?_
    rotate_left
    · exact cAssign rfl rfl
    intro a w6 hF hb
    have hBs := hB.size
    replace hB := hB.trans (hb.mono hB.size)
    try (refine wpList_nil ?_)
    repeat with_reducible first | refine nThen ?_ | refine wp_ret ?_
    refine ret1 hF rfl rfl fun z hz => ?_
    have hz : z = .slice (some ⟨g, off, none⟩) (bothL A B).length cap := hz
    subst hz
    exact ⟨_, rfl, ⟨[g], (hl5.below hb).seg, by simp; exact Nat.le_trans hkw.size hg⟩, hkw.below.trans (hB.mono hB3)⟩

end Go.Proofs.YtmlbkcpmgcjblaaGreat

/- Layer 10: the example that all statements tell; the walks of SetParts, SetLaws. -/
namespace Go.Proofs.YtmlbkcpmgcjblaaGreat
open Go.RowKit

theorem minusL_mem {A B : List Sm} {x : Sm} : x ∈ minusL A B ↔ x ∈ A ∧ x ∉ B := by
  unfold minusL pM
  rw [List.mem_filter, setL_mem]
  simp [setL_mem]
theorem bothL_mem {A B : List Sm} {x : Sm} : x ∈ bothL A B ↔ x ∈ A ∧ x ∈ B := by
  unfold bothL pB
  rw [List.mem_filter, setL_mem]
  simp [setL_mem]
theorem minusL_srt (A B : List Sm) : srt (minusL A B) := srt_filter (setL_srt A) _
theorem bothL_srt (A B : List Sm) : srt (bothL A B) := srt_filter (setL_srt A) _
theorem sameL_true {L M : List Sm} (hs : srt L) (hl : L.length ≤ 512) (h : L = M) : sameL L M = true := by
  subst h
  unfold sameL
  rw [goodL_srt hs, decide_eq_true hl]
  simp

abbrev s1 : Sm := sm1 1 (by decide)
abbrev s2 : Sm := sm1 2 (by decide)
theorem s12 : srt [s1, s2] := List.pairwise_cons.2 ⟨fun y hy => by simp only [List.mem_singleton] at hy; subst hy; decide, List.pairwise_singleton _ _⟩
theorem s_one (x : Sm) : srt [x] := List.pairwise_singleton _ _
end Go.Proofs.YtmlbkcpmgcjblaaGreat

/- Layer 15, plainly: how many a table tells; the order in which sums are put in; one table less another. -/
namespace Go.Proofs.YtmlbkcpmgcjblaaGreat
open Go.RowKit

/-! ### The count -/
theorem ofL_len {seed : Nat} {n : Int} {D : List Sm} (hg : goodN n = true) : (ofL seed n D).length = n.toNat := by
  unfold ofL
  rw [if_pos hg, tall_len, tzero_len]
theorem ofL_good {seed : Nat} {n : Int} {D : List Sm} (hg : goodN n = true) : goodN ((ofL seed n D).length : Int) = true := by
  rw [ofL_len hg]
  have := of_decide_eq_true hg
  rwa [Int.toNat_of_nonneg (by omega)]
/-! ### A table less itself -/
theorem allZ_tzero (n : Nat) : allZ (tzero n) = true := allZ_all fun k hk => by
  rw [tzero_len] at hk
  exact tzero_get hk
/-! ### Whatever order -/
theorem tall_back {seed : Nat} {n m : Int} (hnm : n + m = 0) (xs : List Sm) {L : List Cl} (h : NormT L) : tall seed (tall seed L xs n) xs m = L := by
  apply list_extD
  · rw [tall_len, tall_len]
  · intro j hj
    rw [tall_len, tall_len] at hj
    rw [tall_get _ _ _ _ (by rw [tall_len]; exact hj), tall_get _ _ _ _ hj, tall_len]
    exact putAll_back hnm _ _ (h j hj)

/-! ### One less another -/
theorem filter_parts (p : Sm → Bool) : ∀ L : List Sm, L.Perm (L.filter p ++ L.filter fun x => !p x)
  | [] => List.Perm.refl _
  | x :: L => by
    have ih := filter_parts p L
    by_cases h : p x = true
    · rw [List.filter_cons_of_pos h, List.filter_cons_of_neg (by simp [h])]
      exact ih.cons x
    · rw [List.filter_cons_of_neg h, List.filter_cons_of_pos (by simp [h])]
      exact (ih.cons x).trans List.perm_middle.symm
/-- Two heaps less one another are what each has more, less one another. -/
theorem putAll_less (c : Cl) {P Q R M K : List Sm} (hP : P.Perm (R ++ M)) (hQ : Q.Perm (R ++ K)) : (putAll 1 c P).minus (putAll 1 c Q) = (putAll 1 c M).minus (putAll 1 c K) := by
  rw [putAll_perm hP, putAll_perm hQ]
  rw [minus_putAll (m := -1) (by decide), minus_putAll (m := -1) (by decide), putAll_minus, putAll_minus]
  rw [putAll_append, putAll_append]
  congr 1
  rw [putAll_swap 1 (-1) R M, putAll_back (by decide) R _ (minus_norm c c)]
theorem setless {A B : List Sm} : (setL A).Perm ((setL A).filter (fun x => decide (x ∈ B)) ++ minusL A B) := by
  have := filter_parts (fun x => decide (x ∈ B)) (setL A)
  have e : minusL A B = (setL A).filter fun x => !decide (x ∈ B) := by
    unfold minusL pM
    apply List.filter_congr
    intro x _
    simp [setL_mem]
  rw [e]
  exact this
end Go.Proofs.YtmlbkcpmgcjblaaGreat

/- Peeling, plainly: the first cell that tells a sum which belongs there; taken out, and so on. -/
namespace Go.Proofs.YtmlbkcpmgcjblaaGreat
open Go.RowKit

/-- Cell j tells a sum that belongs there. -/
def pureAt (seed : Nat) (L : List Cl) (j : Nat) : Bool := (L.getD j default).ok && isAt seed L.length j (L.getD j default).key
/-- The first such; the table's length if there is none. -/
def firstP (p : Nat → Bool) : Nat → Nat → Nat
  | _, 0 => 0
  | j, k + 1 => if p j then 0 else firstP p (j + 1) k + 1
def nextI (seed : Nat) (L : List Cl) : Nat := firstP (pureAt seed L) 0 L.length
theorem firstP_le (p : Nat → Bool) : ∀ (k j : Nat), firstP p j k ≤ k
  | 0, _ => Nat.le_refl _
  | k + 1, j => by
    unfold firstP
    split
    · omega
    · have := firstP_le p k (j + 1); omega
theorem firstP_at (p : Nat → Bool) : ∀ (k j : Nat), firstP p j k < k → p (j + firstP p j k) = true
  | 0, _, h => by unfold firstP at h; omega
  | k + 1, j, h => by
    unfold firstP at h ⊢
    split
    · rename_i hp; simpa using hp
    · rename_i hp
      rw [if_neg hp] at h
      have := firstP_at p k (j + 1) (by omega)
      rwa [show j + 1 + firstP p (j + 1) k = j + (firstP p (j + 1) k + 1) by omega] at this
theorem firstP_no (p : Nat → Bool) : ∀ (k j i : Nat), i < firstP p j k → p (j + i) = false
  | 0, _, i, h => by unfold firstP at h; omega
  | k + 1, j, i, h => by
    unfold firstP at h
    split at h
    · omega
    · rename_i hp
      cases i with
      | zero => simpa using hp
      | succ i =>
        have := firstP_no p k (j + 1) i (by omega)
        rwa [show j + 1 + i = j + (i + 1) by omega] at this
theorem firstP_all (p : Nat → Bool) {k : Nat} (h : firstP p 0 k = k) : ∀ i, i < k → p i = false := fun i hi => by
  have := firstP_no p k 0 i (by omega)
  simpa using this
/-- The peeler's state. -/
structure Pst where
  L : List Cl
  plus : List Sm
  minus : List Sm
  once : Bool
/-- One sum taken out of cell i. -/
def Pst.take (seed : Nat) (s : Pst) (i : Nat) : Pst :=
  let c := s.L.getD i default
  let new := !(decide (c.key ∈ s.plus) || decide (c.key ∈ s.minus))
  if c.n = 1 then ⟨tput seed s.L c.key (-1), s.plus ++ [c.key], s.minus, s.once && new⟩ else ⟨tput seed s.L c.key 1, s.plus, s.minus ++ [c.key], s.once && new⟩
/-- At most m sums are taken out. -/
def Pst.run (seed : Nat) : Nat → Pst → Pst
  | 0, s => s
  | m + 1, s => if nextI seed s.L < s.L.length then Pst.run seed m (s.take seed (nextI seed s.L)) else s
def peelS (seed : Nat) (L : List Cl) : Pst := Pst.run seed 1025 ⟨L, [], [], true⟩
def Pst.fine (s : Pst) : Bool := s.once && allZ s.L
theorem Pst.take_len (seed : Nat) (s : Pst) (i : Nat) : (s.take seed i).L.length = s.L.length := by
  unfold Pst.take
  dsimp only
  split <;> exact tput_len _ _ _ _
theorem Pst.run_len (seed : Nat) : ∀ (m : Nat) (s : Pst), (Pst.run seed m s).L.length = s.L.length
  | 0, _ => rfl
  | m + 1, s => by
    unfold Pst.run
    split
    · rw [Pst.run_len seed m, Pst.take_len]
    · rfl
theorem tall_swap (seed : Nat) (n m : Int) (xs ys : List Sm) (L : List Cl) : tall seed (tall seed L xs n) ys m = tall seed (tall seed L ys m) xs n := by
  apply list_extD
  · simp only [tall_len]
  · intro j hj
    simp only [tall_len] at hj
    rw [tall_get _ _ _ _ (by rw [tall_len]; exact hj), tall_get _ _ _ _ hj, tall_get _ _ _ _ (by rw [tall_len]; exact hj), tall_get _ _ _ _ hj, tall_len, tall_len]
    exact putAll_swap n m _ _ _
theorem tput_back {seed : Nat} {n m : Int} (hnm : n + m = 0) (x : Sm) {L : List Cl} (h : NormT L) : tput seed (tput seed L x n) x m = L := tall_back hnm [x] h
end Go.Proofs.YtmlbkcpmgcjblaaGreat

/- A map of one's own from sums to bools, as a set. -/
namespace Go.Proofs.YtmlbkcpmgcjblaaGreat
open Go.RowKit

abbrev MapSB : TypeId := 85
theorem laidS : laidOutB Tryz.prog = true := by kernel_rfl
theorem wideS : (match Tryz.prog.underlying 36 with | some (.array _ _) | some (.struct _) => true | _ => false) = true := by rw [Tryz.underlying36]
set_option maxRecDepth 100000 in
theorem rowS : (36 : TypeId) < Tryz.prog.types.size := of_decide_eq_true (by kernel_rfl)
set_option maxRecDepth 100000 in
theorem ktS : Tryz.prog.keyTypeAt 2 36 = true := by kernel_rfl
set_option maxRecDepth 100000 in
theorem lawS : Go.WideMaps.KeyLaw Tryz.prog 36 := deep_law_laid laidS (m := 2) (by omega) rowS ktS wideS
theorem keyedS : Go.Maps.Keyed Tryz.prog 36 := Go.Maps.Keyed.of_law lawS
theorem mapM_some {α β : Type} (f : α → Option β) : ∀ l : List α, (∀ i ∈ l, ∃ y, f i = some y) → ∃ ys, l.mapM f = some ys
  | [], _ => ⟨[], rfl⟩
  | i :: l, h => by
    obtain ⟨y, hy⟩ := h i (by simp)
    obtain ⟨ys, hys⟩ := mapM_some f l fun j hj => h j (by simp [hj])
    exact ⟨y :: ys, by simp [List.mapM_cons, hy, hys]⟩
theorem key_lits (x : Sm) : ∃ ls, Tryz.prog.keyLits (Tryz.prog.types.size + 1) 36 (Value.agg (u8s x.l)).cells.toList = some ls := by
  obtain ⟨m, hm⟩ : ∃ m, Tryz.prog.types.size = m + 1 := ⟨Tryz.prog.types.size - 1, by have : 0 < Tryz.prog.types.size := of_decide_eq_true (by kernel_rfl); omega⟩
  have hc : Tryz.prog.cellsOf 36 = 32 := by kernel_rfl
  have hc1 : Tryz.prog.cellsOf 5 = 1 := by kernel_rfl
  have hl : (Value.agg (u8s x.l)).cells.toList = x.l.map bv := u8s_list _
  rw [hl]
  unfold Program.keyLits
  rw [Tryz.underlying36]
  have hlen : (x.l.map bv).length = 32 := by rw [List.length_map, x.len]
  simp only [hc, hlen, if_true, hc1, Nat.mul_one]
  obtain ⟨ys, hys⟩ := mapM_some (fun i => Tryz.prog.keyLits Tryz.prog.types.size 5 (((x.l.map bv).drop i).take 1)) (List.range 32) fun i hi => by
    have hi := List.mem_range.1 hi
    have hix : i < x.l.length := by rw [x.len]; exact hi
    have hb := x.lt _ (List.getElem_mem hix)
    have e : ((x.l.map bv).drop i).take 1 = [bv x.l[i]] := by
      rw [List.drop_eq_getElem_cons (by rw [List.length_map]; exact hix), List.take_succ_cons, List.take_zero, List.getElem_map]
    rw [e, hm]
    unfold Program.keyLits
    rw [Tryz.underlying5]
    have hw : (Lit.int .u8 (x.l[i] : Int)).wf = true := by
      simp only [Lit.wf, IntKind.min, IntKind.max, IntKind.signed, IntKind.bits]
      simp
      omega
    exact ⟨[.int .u8 (x.l[i] : Int)], by simp [bv, hw]⟩
  exact ⟨ys.flatten, by rw [hys]; rfl⟩
theorem key_sm (x : Sm) : ∃ l, keyOf Tryz.prog 36 (.agg (u8s x.l)) = some l := by
  obtain ⟨ls, h⟩ := key_lits x
  have hk : Tryz.prog.keyType 36 = true := by kernel_rfl
  have hf : (Value.agg (u8s x.l)).formed Tryz.prog 36 = true := by
    have hc : Tryz.prog.cellsOf 36 = 32 := by kernel_rfl
    simp [Value.formed, Tryz.underlying36, hc, u8s_size, x.len]
  unfold keyOf
  rw [Tryz.underlying36]
  simp only [hk, hf, Bool.and_self, if_true, h, Option.map_some]
  exact ⟨_, rfl⟩
/-- The key's letter. -/
noncomputable def klS (x : Sm) : Lit := Classical.choose (key_sm x)
theorem klS_key (x : Sm) : keyOf Tryz.prog 36 (.agg (u8s x.l)) = some (klS x) := Classical.choose_spec (key_sm x)
theorem aggS_inj {x y : Sm} (h : Value.agg (u8s x.l) = .agg (u8s y.l)) : x = y := by
  injection h with h
  have h1 : (u8s x.l).toList = (u8s y.l).toList := by rw [h]
  rw [u8s_list, u8s_list] at h1
  have h2 := congrArg (List.map fun v : Value => match v with | .int _ n => n.toNat | _ => 0) h1
  rw [List.map_map, List.map_map] at h2
  have e : ∀ l : List Nat, l.map ((fun v : Value => match v with | .int _ n => n.toNat | _ => 0) ∘ bv) = l := fun l => by
    induction l with
    | nil => rfl
    | cons a l ih => rw [List.map_cons, ih]; rfl
  rw [e, e] at h2
  cases x; cases y
  simp only at h2
  subst h2
  rfl
theorem plainBool_inv {H : Type} {P : Program} {e : TypeId} (he : P.underlying e = some .bool) {v : Value} {z : DataW H × List MemPlace} (h : plainElem P e v = some z) : ∃ b, v = .bool b ∧ z = (.lit (.bool b), []) := by
  unfold plainElem at h
  rw [he] at h
  cases v <;> simp at h
  exact ⟨_, rfl, h.symm⟩
theorem klS_inj {x y : Sm} (h : klS x = klS y) : x = y := aggS_inj (keyedS.inj (klS_key x) (by rw [h]; exact klS_key y))
theorem klS_ne {x y : Sm} (h : ¬ x = y) : klS x ≠ klS y := fun e => h (klS_inj e)
/-- Block b is a map of at most n entries; just the sums of S are true there. -/
def MapIs (w : World) (b n : Nat) (S : List Sm) : Prop := ∃ D : DataW Unit, w.ownsMap Tryz.prog 36 (plainElem Tryz.prog 4) b n D ∧ Go.Maps.IsMap D ∧ ∀ x : Sm, D.atKey (klS x) (.lit (.bool false)) = .lit (.bool (decide (x ∈ S)))
theorem zeroB (w : World) : (zeroValue 4).run Tryz.prog w = .ok (.bool false) w := by kernel_rfl
theorem MapIs.made (w : World) : MapIs (w.alloc (.map #[] 0)) w.heap.size 0 [] := ⟨.map [], World.ownsMap_made w Tryz.prog 36 _, ⟨[], rfl⟩, fun _ => rfl⟩
theorem MapIs.look {w : World} {b n : Nat} {S : List Sm} (h : MapIs w b n S) (x : Sm) : (Instr.lookup MapSB (.map (some b)) (.agg (u8s x.l)) false).run Tryz.prog w = .ok (.bool (decide (x ∈ S))) w := by
  obtain ⟨D, h1, h2, h3⟩ := h
  obtain ⟨v, ps, hrun, hv⟩ := h1.lookup keyedS Tryz.underlying85 (zeroB w) (plainElem_bool Tryz.underlying4 false) (klS_key x)
  rw [h3 x] at hv
  obtain ⟨c, rfl, hz⟩ := plainBool_inv Tryz.underlying4 hv
  simp only [Prod.mk.injEq, DataW.lit.injEq, Lit.bool.injEq] at hz
  rw [hrun, hz.1]
theorem MapIs.store {w : World} {b n : Nat} {S : List Sm} (h : MapIs w b n S) (hn : n < maxLen) (x : Sm) : ∃ w', (Instr.mapUpdate MapSB (.map (some b)) (.agg (u8s x.l)) (.bool true)).run Tryz.prog w = .ok () w' ∧ MapIs w' b (n + 1) (x :: S) ∧ w.grownBy w' (some b) := by
  obtain ⟨D, h1, h2, h3⟩ := h
  obtain ⟨w', hrun, h4, h5⟩ := h1.update keyedS Tryz.underlying85 hn (klS_key x) (plainElem_bool Tryz.underlying4 true)
  refine ⟨w', hrun, ⟨_, h4, ?_, fun y => ?_⟩, h5⟩
  · exact h2.put _ _
  · by_cases hxy : y = x
    · subst hxy
      rw [Go.Maps.atKey_put_same h2 (keyedS.key (klS_key y))]
      simp
    · rw [Go.Maps.atKey_put_other (klS_ne hxy), h3 y]
      simp [hxy]
end Go.Proofs.YtmlbkcpmgcjblaaGreat

/- A map of one's own in walks by types. -/
namespace Go.Proofs.YtmlbkcpmgcjblaaGreat
open Go.RowKit

theorem MapIs.same {w w' : World} {b n : Nat} {S : List Sm} (h : MapIs w b n S) (hb : w'.heap[b]? = w.heap[b]?) : MapIs w' b n S := by
  obtain ⟨D, ⟨es, clock, h1, h2, h3, h4⟩, h5, h6⟩ := h
  exact ⟨D, ⟨es, clock, hb.trans h1, h2, h3, h4⟩, h5, h6⟩
theorem MapIs.obj {w : World} {b n : Nat} {S : List Sm} (h : MapIs w b n S) : ∃ es clock, w.heap[b]? = some (.map es clock) := by
  obtain ⟨D, ⟨es, clock, h1, _⟩, _⟩ := h
  exact ⟨es, clock, h1⟩
theorem MapIs.lt {w : World} {b n : Nat} {S : List Sm} (h : MapIs w b n S) : b < w.heap.size := by
  obtain ⟨es, clock, h1⟩ := h.obj
  exact (Array.getElem?_eq_some_iff.1 h1).1
theorem MapIs.keeps {w w' : World} {b n : Nat} {S : List Sm} {G : List Nat} (h : MapIs w b n S) (k : Keeps G w w') (hG : b ∉ G) : MapIs w' b n S := h.same (k.block b h.lt hG)
/-- A map of one's own is no block of cells. -/
theorem MapIs.ne {w : World} {b n g : Nat} {S : List Sm} {t : TypeId} {cs : Array Value} (h : MapIs w b n S) (hb : Blk w g t cs) : b ≠ g := fun e => by
  subst e
  obtain ⟨es, clock, h1⟩ := h.obj
  unfold Blk at hb
  rw [hb] at h1
  cases h1
/-- A map that is read. -/
def Ty.mapS (b n : Nat) (S : List Sm) : Ty := ⟨fun w v => v = .map (some b) ∧ MapIs w b n S, fun _ => false, fun {w w' v G} ⟨h1, h2⟩ k hA => ⟨h1, h2.keeps k fun hm => by
  obtain ⟨cs, t, fr, h3, _⟩ := hA b hm h2.lt
  obtain ⟨es, clock, h4⟩ := h2.obj
  rw [h4] at h3
  cases h3⟩⟩
theorem cLookS {w0 : World} {Γ : Ctx} {o : Oper} {m x : Operand} {b n : Nat} {S : List Sm} {X : Sm} (ho : o.op = .lookup MapSB m x false) (hm : Has w0 Γ m (Ty.mapS b n S)) (hx : OpT Γ x (Ty.ex (.agg (u8s X.l)))) : OpOk Tryz.prog w0 Γ o (Ty.ex (.bool (decide (X ∈ S)))) :=
  .val fun a w hb hs => by
    obtain ⟨v, h1, rfl, h2⟩ := hm.see hs (by simp [ho, Op.operands]) hb
    obtain ⟨u, h3, h4⟩ := hs x _ (by simp [ho, Op.operands]) hx
    have h4 : u = .agg (u8s X.l) := h4
    refine ⟨_, rfl, ?_⟩
    unfold execOp
    simp [ho, h1, h3, h4, h2.look X]
section
variable {ops : Array Oper} {Q : Exit → Act → World → Prop} {a : Act} {w : World} {o : Oper} {rest : List Oper}
theorem tlMapPut {m x y : Operand} {b n : Nat} {S : List Sm} {X : Sm} (hg : o.guard = none) (hd : o.dst = none) (ho : o.op = .mapUpdate MapSB m x y) (hm : a.eval m = .map (some b)) (hx : a.eval x = .agg (u8s X.l)) (hy : a.eval y = .bool true) (h : MapIs w b n S) (hn : n < maxLen)
    (hk : ∀ w', MapIs w' b (n + 1) (X :: S) → Keeps [b] w w' → wpList Tryz.prog ops Q rest a w') : wpList Tryz.prog ops Q (o :: rest) a w := by
  refine wpList_plain hg fun K hK => ?_
  obtain ⟨w', hrun, h1, h2⟩ := h.store hn X
  unfold Oper.wp execOp
  simp only [ho, hm, hx, hy, Sem.run_bind, hrun, Result.andThen_ok, Sem.run_pure]
  refine hK _ _ ?_
  rw [hd]
  exact hk w' h1 ⟨h2.os, h2.tape, h2.output, h2.size, fun k hkl hkb => h2.block k hkl fun e => hkb (by simp only [Option.some.injEq] at e; simp [e])⟩
/-- Slots of exact values stay in every world. -/
theorem Fr.exs {N : Nat} {Γ : Ctx} {w' : World} (h : Fr N Γ a w) (hx : ∀ (s : Nat) (τ : Ty), look Γ s = some τ → ∃ v, τ = Ty.ex v) : Fr N Γ a w' :=
  ⟨h.size, h.defers, fun s τ hs => by
    obtain ⟨v, h1, h2⟩ := h.val s τ hs
    obtain ⟨u, rfl⟩ := hx s τ hs
    exact ⟨v, h1, h2⟩⟩
theorem run_makeSB (w : World) : (Instr.makeMap MapSB none).run Tryz.prog w = .ok (.map (some w.heap.size)) (w.alloc (.map #[] 0)) := run_makeMap _ w
end
end Go.Proofs.YtmlbkcpmgcjblaaGreat

/- slices.Index of []int and []bool, Contains, by types. -/
namespace Go.Proofs.YtmlbkcpmgcjblaaGreat
open Go.RowKit

/-- The first place, or -1. -/
def idxOf (p : Nat → Bool) (n : Nat) : Int := if firstP p 0 n < n then (firstP p 0 n : Int) else -1
theorem idxOf_at {p : Nat → Bool} {n j : Nat} (hj : j < n) (hno : ∀ i, i < j → p i = false) (hp : p j = true) : idxOf p n = (j : Int) := by
  have h1 : firstP p 0 n = j := by
    rcases Nat.lt_trichotomy (firstP p 0 n) j with h | h | h
    · have h2 := firstP_at p n 0 (by omega)
      rw [Nat.zero_add, hno _ h] at h2
      cases h2
    · exact h
    · have h2 := firstP_no p n 0 j h
      rw [Nat.zero_add, hp] at h2
      cases h2
  unfold idxOf
  rw [h1, if_pos hj]
theorem idxOf_no {p : Nat → Bool} {n : Nat} (hno : ∀ i, i < n → p i = false) : idxOf p n = -1 := by
  unfold idxOf
  rw [if_neg]
  intro h
  have h2 := firstP_at p n 0 h
  rw [Nat.zero_add, hno _ h] at h2
  cases h2
theorem idxOf_mem {l : List Nat} {x : Nat} : decide ((0 : Int) ≤ idxOf (fun i => decide (l.getD i 0 = x)) l.length) = decide (x ∈ l) := by
  unfold idxOf
  split
  · rename_i h
    have h2 := firstP_at _ _ _ h
    rw [Nat.zero_add] at h2
    have h3 : l.getD (firstP (fun i => decide (l.getD i 0 = x)) 0 l.length) 0 = x := by simpa using h2
    rw [decide_eq_true (by omega), decide_eq_true]
    rw [← h3]
    exact getD_mem h
  · rename_i h
    have hle := firstP_le (fun i => decide (l.getD i 0 = x)) l.length 0
    have hall := firstP_all (fun i => decide (l.getD i 0 = x)) (k := l.length) (by omega)
    rw [decide_eq_false (by omega), decide_eq_false]
    intro hm
    obtain ⟨i, hi, he⟩ := List.getElem_of_mem hm
    have := hall i hi
    simp [List.getD, List.getElem?_eq_getElem hi, he] at this
theorem cEqlBoolP {P : Program} {w0 : World} {Γ : Ctx} {o : Oper} {t t2 : TypeId} {x y : Operand} {b c : Bool} (ho : o.op = .binOp .eql t x y t2) (hx : OpT Γ x (Ty.ex (.bool b))) (hy : OpT Γ y (Ty.ex (.bool c))) (h : P.underlying t = some .bool) : OpOk P w0 Γ o (Ty.ex (.bool (b == c))) :=
  cBin ho hx hy fun w => by simp [eqGuard, binOp, run_equal_bool w t b c h]
def bvl (b : Bool) : Value := .bool b
theorem getD_dropG {α : Type} (f : α → Value) (d : α) {l : List α} {k : Nat} (h : k < l.length) : (l.map f).drop k = f (l.getD k d) :: (l.map f).drop (k + 1) := by
  rw [List.drop_eq_getElem_cons (by rw [List.length_map]; exact h), List.getElem_map]
  simp [List.getD, List.getElem?_eq_getElem h]
theorem sizeBool : (Tryz.prog.info? 4).map (·.size) = some 1 := by kernel_rfl
theorem sizeInt1 : (Tryz.prog.info? 3).map (·.size) = some 1 := by kernel_rfl
set_option maxRecDepth 100000 in
set_option maxHeartbeats 1000000 in
theorem idxBool_ty (l : List Bool) (x : Bool) (hl : l.length ≤ 1000000) : Fn2 Tryz.prog 31 (Ty.sl 4 l.length (l.map bvl)) (Ty.ex (.bool x)) (Ty.ex (.int .i64 (idxOf (fun i => decide (l.getD i false = x)) l.length))) := by
  refine ⟨fun args w => by kernel_rfl, fun w v u hv hu => ?_⟩
  let TL := Ty.sl 4 l.length (l.map bvl)
  refine enter_ty 19 [Ty.ex v, Ty.ex (.bool x)] Tryz.func31 rfl (by kernel_rfl) ⟨rfl, hu, trivial⟩ fun a hF => ?_
  have hB := Below.refl w.heap.size w
  repeat with_reducible refine wp_seq ?_
  refine' reg_all hF ?_ mixed (by kernel_rfl) ?_
  rotate_left
  · repeat (first | exact Line.nil | ((refine' Line.cons rfl (.run rfl rfl ?_) ?_); (any_goals exact cAssign rfl rfl); rotate_left))
  intro a w1 hF hb hN
  have hBs := hB.size
  replace hB := hB.trans (hb.mono hB.size)
  dsimp only [ext, Option.getD] at hF
  repeat with_reducible first | refine wp_seq ?_ | refine nThen ?_
  have hv1 := TL.below hv hB
  refine' reg_all hF ?_ mixed (by kernel_rfl) ?_
  rotate_left
  · repeat (first | exact Line.nil | ((refine' Line.cons rfl (.run rfl rfl ?_) ?_); (any_goals (first | exact cMove rfl rfl | exact cLenH rfl (.l rfl hv1) (Ty.sl_isSl _ _ _) Tryz.underlying84)); rotate_left))
  intro a w2 hF hb hN
  have hBs := hB.size
  replace hB := hB.trans (hb.mono hB.size)
  dsimp only [ext, Option.getD] at hF
  repeat with_reducible first | refine nThen ?_ | refine wp_block ?_
  refine loop_ty (fun m a wr => ∃ j : Nat, j + m = l.length ∧ Fr 19 [(0, Ty.ex v), (1, Ty.ex (.bool x)), (7, Ty.ex (.int .i64 (l.length : Int))), (8, Ty.ex (.int .i64 (j : Int)))] a wr ∧ Below w.heap.size w wr ∧ ∀ i, i < j → decide (l.getD i false = x) = false) l.length ?_ ?_
  · exact ⟨0, by omega, hF.keep [0, 1, 7, 8], hB, fun i hi => by omega⟩
  clear hF hB hv1
  rintro m a wr ⟨j, hj, hF, hB, hno⟩
  repeat with_reducible refine wp_seq ?_
  refine' reg_all hF ?_ mixed (by kernel_rfl) ?_
  rotate_left
  · repeat (first | exact Line.nil | ((refine' Line.cons rfl (.run rfl rfl ?_) ?_); (any_goals exact cLss rfl rfl rfl); rotate_left))
  intro a w3 hF hb hN
  have hBs := hB.size
  replace hB := hB.trans (hb.mono hB.size)
  dsimp only [ext, Option.getD] at hF
  repeat with_reducible first | refine wp_seq ?_ | refine nThen ?_
  refine cond_ty hF rfl (fun hlt => ?_) (fun hge => ?_)
  · have hlt : j < l.length := by have := of_decide_eq_true hlt; omega
    have hd1 := getD_dropG bvl false hlt
    have hv3 := TL.below hv hB
    repeat with_reducible first | refine wp_seq ?_ | refine nThen ?_ | refine wp_skip ?_ | refine wp_block ?_
    refine' reg_all hF ?_ mixed (by kernel_rfl) ?_
    rotate_left
    · repeat (first | exact Line.nil | ((refine' Line.cons rfl (.run rfl rfl ?_) ?_); (any_goals (first | exact cMove rfl rfl | exact cAssign rfl rfl)); rotate_left))
    intro a w4 hF hb hN
    have hBs := hB.size
    replace hB := hB.trans (hb.mono hB.size)
    dsimp only [ext, Option.getD] at hF
    repeat with_reducible first | refine wp_seq ?_ | refine nThen ?_
    have hv3 := TL.below hv hB
    cases hpj : decide (l.getD j false = x) with
    | true =>
      rw [idxOf_at (p := fun i => decide (l.getD i false = x)) hlt hno hpj]
      refine' reg_all hF ?_ mixed (by kernel_rfl) ?_
      rotate_left
      · repeat (first | exact Line.nil | ((refine' Line.cons rfl (.run rfl rfl ?_) ?_); (any_goals (first | exact cMove rfl rfl | exact cIndexS (k := j) (sz := 1) rfl (.l rfl hv3) rfl Tryz.underlying84 sizeBool hlt (by rw [List.length_map]; omega) | exact cLoad1 (u := bvl (l.getD j false)) rfl (Has.c (.t rfl) (fun W v h => by rw [Nat.mul_one, hd1] at h; exact h)) (pts_at _ _) Tryz.underlying4 rfl | exact OpOk.b (c := true) (cEqlBoolP rfl rfl rfl Tryz.underlying4) (beq_iff_eq.2 (of_decide_eq_true hpj).symm))); rotate_left))
      intro a w5 hF hb hN
      have hBs := hB.size
      replace hB := hB.trans (hb.mono hB.size)
      dsimp only [ext, Option.getD] at hF
      repeat with_reducible refine nThen ?_
      refine cond_t hF rfl ?_
      repeat with_reducible refine wp_seq ?_
      refine' reg_all hF ?_ mixed (by kernel_rfl) ?_
      rotate_left
      · repeat (first | exact Line.nil | ((refine' Line.cons rfl (.run rfl rfl ?_) ?_); (any_goals (first | exact cMove rfl rfl | exact cAssign rfl rfl)); rotate_left))
      intro a w6 hF hb hN
      have hBs := hB.size
      replace hB := hB.trans (hb.mono hB.size)
      dsimp only [ext, Option.getD] at hF
      repeat with_reducible first | refine nThen ?_ | refine wp_ret ?_ | refine rThen ?_ | refine rBlk ?_
      refine ret1 hF rfl rfl fun z hz => ?_
      exact ⟨z, rfl, hz, hB⟩
    | false =>
      refine' reg_all hF ?_ mixed (by kernel_rfl) ?_
      rotate_left
      · repeat (first | exact Line.nil | ((refine' Line.cons rfl (.run rfl rfl ?_) ?_); (any_goals (first | exact cMove rfl rfl | exact cIndexS (k := j) (sz := 1) rfl (.l rfl hv3) rfl Tryz.underlying84 sizeBool hlt (by rw [List.length_map]; omega) | exact cLoad1 (u := bvl (l.getD j false)) rfl (Has.c (.t rfl) (fun W v h => by rw [Nat.mul_one, hd1] at h; exact h)) (pts_at _ _) Tryz.underlying4 rfl | exact OpOk.b (c := false) (cEqlBoolP rfl rfl rfl Tryz.underlying4) (beq_eq_false_iff_ne.2 (fun e => of_decide_eq_false hpj e.symm)))); rotate_left))
      intro a w5 hF hb hN
      have hBs := hB.size
      replace hB := hB.trans (hb.mono hB.size)
      dsimp only [ext, Option.getD] at hF
      repeat with_reducible refine nThen ?_
      refine cond_f hF rfl ?_
      repeat with_reducible first | refine nThen ?_ | refine nBlk ?_ | refine wp_skip ?_
      refine' reg_all hF ?_ mixed (by kernel_rfl) ?_
      rotate_left
      · repeat (first | exact Line.nil | ((refine' Line.cons rfl (.run rfl rfl ?_) ?_); (any_goals (first | exact cMove rfl rfl | exact cAdd (r := ((j + 1 : Nat) : Int)) rfl rfl rfl (by omega))); rotate_left))
      intro a w6 hF hb hN
      have hBs := hB.size
      replace hB := hB.trans (hb.mono hB.size)
      dsimp only [ext, Option.getD] at hF
      repeat with_reducible refine nThen ?_
      refine ⟨m - 1, by omega, j + 1, by omega, hF.keep [0, 1, 7, 8], hB, fun i hi => ?_⟩
      by_cases hij : i = j
      · rw [hij]; exact hpj
      · exact hno i (by omega)
  have hge : ¬ j < l.length := by have := of_decide_eq_false hge; omega
  rw [idxOf_no (p := fun i => decide (l.getD i false = x)) (n := l.length) (fun i hi => hno i (by omega))]
  repeat with_reducible first | refine wp_seq ?_ | refine nThen ?_ | refine wp_exit ?_ | refine xThen ?_ | refine xHere ?_
  refine' reg_all hF ?_ mixed (by kernel_rfl) ?_
  rotate_left
  · repeat (first | exact Line.nil | ((refine' Line.cons rfl (.run rfl rfl ?_) ?_); (any_goals exact cAssign rfl rfl); rotate_left))
  intro a w4 hF hb hN
  have hBs := hB.size
  replace hB := hB.trans (hb.mono hB.size)
  dsimp only [ext, Option.getD] at hF
  repeat with_reducible first | refine nThen ?_ | refine wp_ret ?_
  refine ret1 hF rfl rfl fun z hz => ?_
  exact ⟨z, rfl, hz, hB⟩
set_option maxRecDepth 100000 in
set_option maxHeartbeats 1000000 in
theorem idxInt_ty (l : List Nat) (x : Nat) (hl : l.length ≤ 1000000) : Fn2 Tryz.prog 82 (Ty.sl 3 l.length (l.map ivn)) (Ty.ex (.int .i64 (x : Int))) (Ty.ex (.int .i64 (idxOf (fun i => decide (l.getD i 0 = x)) l.length))) := by
  refine ⟨fun args w => by kernel_rfl, fun w v u hv hu => ?_⟩
  let TL := Ty.sl 3 l.length (l.map ivn)
  refine enter_ty 19 [Ty.ex v, Ty.ex (.int .i64 (x : Int))] Tryz.func82 rfl (by kernel_rfl) ⟨rfl, hu, trivial⟩ fun a hF => ?_
  have hB := Below.refl w.heap.size w
  repeat with_reducible refine wp_seq ?_
  refine' reg_all hF ?_ mixed (by kernel_rfl) ?_
  rotate_left
  · repeat (first | exact Line.nil | ((refine' Line.cons rfl (.run rfl rfl ?_) ?_); (any_goals exact cAssign rfl rfl); rotate_left))
  intro a w1 hF hb hN
  have hBs := hB.size
  replace hB := hB.trans (hb.mono hB.size)
  dsimp only [ext, Option.getD] at hF
  repeat with_reducible first | refine wp_seq ?_ | refine nThen ?_
  have hv1 := TL.below hv hB
  refine' reg_all hF ?_ mixed (by kernel_rfl) ?_
  rotate_left
  · repeat (first | exact Line.nil | ((refine' Line.cons rfl (.run rfl rfl ?_) ?_); (any_goals (first | exact cMove rfl rfl | exact cLenH rfl (.l rfl hv1) (Ty.sl_isSl _ _ _) Tryz.underlying23)); rotate_left))
  intro a w2 hF hb hN
  have hBs := hB.size
  replace hB := hB.trans (hb.mono hB.size)
  dsimp only [ext, Option.getD] at hF
  repeat with_reducible first | refine nThen ?_ | refine wp_block ?_
  refine loop_ty (fun m a wr => ∃ j : Nat, j + m = l.length ∧ Fr 19 [(0, Ty.ex v), (1, Ty.ex (.int .i64 (x : Int))), (7, Ty.ex (.int .i64 (l.length : Int))), (8, Ty.ex (.int .i64 (j : Int)))] a wr ∧ Below w.heap.size w wr ∧ ∀ i, i < j → decide (l.getD i 0 = x) = false) l.length ?_ ?_
  · exact ⟨0, by omega, hF.keep [0, 1, 7, 8], hB, fun i hi => by omega⟩
  clear hF hB hv1
  rintro m a wr ⟨j, hj, hF, hB, hno⟩
  repeat with_reducible refine wp_seq ?_
  refine' reg_all hF ?_ mixed (by kernel_rfl) ?_
  rotate_left
  · repeat (first | exact Line.nil | ((refine' Line.cons rfl (.run rfl rfl ?_) ?_); (any_goals exact cLss rfl rfl rfl); rotate_left))
  intro a w3 hF hb hN
  have hBs := hB.size
  replace hB := hB.trans (hb.mono hB.size)
  dsimp only [ext, Option.getD] at hF
  repeat with_reducible first | refine wp_seq ?_ | refine nThen ?_
  refine cond_ty hF rfl (fun hlt => ?_) (fun hge => ?_)
  · have hlt : j < l.length := by have := of_decide_eq_true hlt; omega
    have hd1 := getD_dropG ivn 0 hlt
    have hv3 := TL.below hv hB
    repeat with_reducible first | refine wp_seq ?_ | refine nThen ?_ | refine wp_skip ?_ | refine wp_block ?_
    refine' reg_all hF ?_ mixed (by kernel_rfl) ?_
    rotate_left
    · repeat (first | exact Line.nil | ((refine' Line.cons rfl (.run rfl rfl ?_) ?_); (any_goals (first | exact cMove rfl rfl | exact cAssign rfl rfl)); rotate_left))
    intro a w4 hF hb hN
    have hBs := hB.size
    replace hB := hB.trans (hb.mono hB.size)
    dsimp only [ext, Option.getD] at hF
    repeat with_reducible first | refine wp_seq ?_ | refine nThen ?_
    have hv3 := TL.below hv hB
    cases hpj : decide (l.getD j 0 = x) with
    | true =>
      rw [idxOf_at (p := fun i => decide (l.getD i 0 = x)) hlt hno hpj]
      refine' reg_all hF ?_ mixed (by kernel_rfl) ?_
      rotate_left
      · repeat (first | exact Line.nil | ((refine' Line.cons rfl (.run rfl rfl ?_) ?_); (any_goals (first | exact cMove rfl rfl | exact cIndexS (k := j) (sz := 1) rfl (.l rfl hv3) rfl Tryz.underlying23 sizeInt1 hlt (by rw [List.length_map]; omega) | exact cLoad1 (u := ivn (l.getD j 0)) rfl (Has.c (.t rfl) (fun W v h => by rw [Nat.mul_one, hd1] at h; exact h)) (pts_at _ _) Tryz.underlying3 rfl | exact OpOk.b (c := true) (cEql rfl rfl rfl) (decide_eq_true (congrArg Nat.cast (of_decide_eq_true hpj)).symm))); rotate_left))
      intro a w5 hF hb hN
      have hBs := hB.size
      replace hB := hB.trans (hb.mono hB.size)
      dsimp only [ext, Option.getD] at hF
      repeat with_reducible refine nThen ?_
      refine cond_t hF rfl ?_
      repeat with_reducible refine wp_seq ?_
      refine' reg_all hF ?_ mixed (by kernel_rfl) ?_
      rotate_left
      · repeat (first | exact Line.nil | ((refine' Line.cons rfl (.run rfl rfl ?_) ?_); (any_goals (first | exact cMove rfl rfl | exact cAssign rfl rfl)); rotate_left))
      intro a w6 hF hb hN
      have hBs := hB.size
      replace hB := hB.trans (hb.mono hB.size)
      dsimp only [ext, Option.getD] at hF
      repeat with_reducible first | refine nThen ?_ | refine wp_ret ?_ | refine rThen ?_ | refine rBlk ?_
      refine ret1 hF rfl rfl fun z hz => ?_
      exact ⟨z, rfl, hz, hB⟩
    | false =>
      refine' reg_all hF ?_ mixed (by kernel_rfl) ?_
      rotate_left
      · repeat (first | exact Line.nil | ((refine' Line.cons rfl (.run rfl rfl ?_) ?_); (any_goals (first | exact cMove rfl rfl | exact cIndexS (k := j) (sz := 1) rfl (.l rfl hv3) rfl Tryz.underlying23 sizeInt1 hlt (by rw [List.length_map]; omega) | exact cLoad1 (u := ivn (l.getD j 0)) rfl (Has.c (.t rfl) (fun W v h => by rw [Nat.mul_one, hd1] at h; exact h)) (pts_at _ _) Tryz.underlying3 rfl | exact OpOk.b (c := false) (cEql rfl rfl rfl) (decide_eq_false (fun e => of_decide_eq_false hpj (Int.ofNat.inj e).symm)))); rotate_left))
      intro a w5 hF hb hN
      have hBs := hB.size
      replace hB := hB.trans (hb.mono hB.size)
      dsimp only [ext, Option.getD] at hF
      repeat with_reducible refine nThen ?_
      refine cond_f hF rfl ?_
      repeat with_reducible first | refine nThen ?_ | refine nBlk ?_ | refine wp_skip ?_
      refine' reg_all hF ?_ mixed (by kernel_rfl) ?_
      rotate_left
      · repeat (first | exact Line.nil | ((refine' Line.cons rfl (.run rfl rfl ?_) ?_); (any_goals (first | exact cMove rfl rfl | exact cAdd (r := ((j + 1 : Nat) : Int)) rfl rfl rfl (by omega))); rotate_left))
      intro a w6 hF hb hN
      have hBs := hB.size
      replace hB := hB.trans (hb.mono hB.size)
      dsimp only [ext, Option.getD] at hF
      repeat with_reducible refine nThen ?_
      refine ⟨m - 1, by omega, j + 1, by omega, hF.keep [0, 1, 7, 8], hB, fun i hi => ?_⟩
      by_cases hij : i = j
      · rw [hij]; exact hpj
      · exact hno i (by omega)
  have hge : ¬ j < l.length := by have := of_decide_eq_false hge; omega
  rw [idxOf_no (p := fun i => decide (l.getD i 0 = x)) (n := l.length) (fun i hi => hno i (by omega))]
  repeat with_reducible first | refine wp_seq ?_ | refine nThen ?_ | refine wp_exit ?_ | refine xThen ?_ | refine xHere ?_
  refine' reg_all hF ?_ mixed (by kernel_rfl) ?_
  rotate_left
  · repeat (first | exact Line.nil | ((refine' Line.cons rfl (.run rfl rfl ?_) ?_); (any_goals exact cAssign rfl rfl); rotate_left))
  intro a w4 hF hb hN
  have hBs := hB.size
  replace hB := hB.trans (hb.mono hB.size)
  dsimp only [ext, Option.getD] at hF
  repeat with_reducible first | refine nThen ?_ | refine wp_ret ?_
  refine ret1 hF rfl rfl fun z hz => ?_
  exact ⟨z, rfl, hz, hB⟩
set_option maxRecDepth 100000 in
theorem contInt_ty (l : List Nat) (x : Nat) (hl : l.length ≤ 1000000) : Fn2 Tryz.prog 62 (Ty.sl 3 l.length (l.map ivn)) (Ty.ex (.int .i64 (x : Int))) (Ty.ex (.bool (decide (x ∈ l)))) := by
  refine ⟨fun args w => by kernel_rfl, fun w v u hv hu => ?_⟩
  have hI := idxInt_ty l x hl
  have hM := idxOf_mem (l := l) (x := x)
  let TL := Ty.sl 3 l.length (l.map ivn)
  refine enter_ty 9 [Ty.ex v, Ty.ex (.int .i64 (x : Int))] Tryz.func62 rfl (by kernel_rfl) ⟨rfl, hu, trivial⟩ fun a hF => ?_
  have hB := Below.refl w.heap.size w
  repeat with_reducible refine wp_seq ?_
  refine' reg_all hF ?_ mixed (by kernel_rfl) ?_
  rotate_left
  · repeat (first | exact Line.nil | ((refine' Line.cons rfl (.run rfl rfl ?_) ?_); (any_goals exact cAssign rfl rfl); rotate_left))
  intro a w1 hF hb hN
  have hBs := hB.size
  replace hB := hB.trans (hb.mono hB.size)
  dsimp only [ext, Option.getD] at hF
  repeat with_reducible first | refine wp_seq ?_ | refine nThen ?_
  have hv1 := TL.below hv hB
  refine' reg_all hF ?_ mixed (by kernel_rfl) ?_
  rotate_left
  · repeat (first | exact Line.nil | ((refine' Line.cons rfl (.run rfl rfl ?_) ?_); (any_goals (first | exact cMove rfl rfl | exact cAssign rfl rfl | exact cCallH2 rfl (.l rfl hv1) (.t rfl) hI | exact OpOk.b (cGeq rfl rfl rfl) hM)); rotate_left))
  intro a w2 hF hb hN
  have hBs := hB.size
  replace hB := hB.trans (hb.mono hB.size)
  dsimp only [ext, Option.getD] at hF
  repeat with_reducible first | refine nThen ?_ | refine wp_ret ?_
  refine ret1 hF rfl rfl fun z hz => ?_
  exact ⟨z, rfl, hz, hB⟩
end Go.Proofs.YtmlbkcpmgcjblaaGreat

/- Layer 15 by types: a table in a variable; the example that all its statements tell. -/
namespace Go.Proofs.YtmlbkcpmgcjblaaGreat
open Go.RowKit

/-- The address of a table that is read. -/
def Ty.tabP (t e : TypeId) (seed : Nat) (L : List Cl) : Ty := ⟨fun w v => ∃ s, (Ty.at_ t [.int .u64 (seed : Int), s]).p w v ∧ SlP w e s L.length (flatC L), fun u => u == t || u == e, fun {w w' v S} ⟨s, h1, h2⟩ k hA => by
  refine ⟨s, (Ty.at_ t _).st h1 k fun b hb hl => ?_, (Ty.cls e L).st h2 k fun b hb hl => ?_⟩
  · obtain ⟨cs, t', fr, h3, h4⟩ := hA b hb hl
    exact ⟨cs, t', fr, h3, (Bool.or_eq_false_iff.1 h4).1⟩
  · obtain ⟨cs, t', fr, h3, h4⟩ := hA b hb hl
    exact ⟨cs, t', fr, h3, (Bool.or_eq_false_iff.1 h4).2⟩⟩
section
variable {w0 : World} {Γ : Ctx} {o : Oper} {x : Operand} {e : TypeId} {seed : Nat} {L : List Cl}
theorem cLoadTab46 (ho : o.op = .load 27 x) (hx : Has w0 Γ x (Ty.tabP 27 e seed L)) : OpOk Tryz.prog w0 Γ o (Ty.tab e seed L) :=
  .val fun a w hb hs => by
    obtain ⟨v, h1, s, h2, h5⟩ := hx.see hs (by simp [ho, Op.operands]) hb
    obtain ⟨ad, rfl, h3⟩ := pts_at _ _ w v h2
    refine ⟨.agg #[.int .u64 (seed : Int), s], ⟨s, rfl, h5⟩, ?_⟩
    have h4 := run_loadVar_rd (P := Tryz.prog) h3 Tryz.underlying27 rfl (by rw [sizeT46]; rfl)
    unfold execOp
    simp [ho, h1, Instr.loadAt, Instr.sureAddr, h4]
theorem cLoadTab83 (ho : o.op = .load 44 x) (hx : Has w0 Γ x (Ty.tabP 44 e seed L)) : OpOk Tryz.prog w0 Γ o (Ty.tab e seed L) :=
  .val fun a w hb hs => by
    obtain ⟨v, h1, s, h2, h5⟩ := hx.see hs (by simp [ho, Op.operands]) hb
    obtain ⟨ad, rfl, h3⟩ := pts_at _ _ w v h2
    refine ⟨.agg #[.int .u64 (seed : Int), s], ⟨s, rfl, h5⟩, ?_⟩
    have h4 := run_loadVar_rd (P := Tryz.prog) h3 Tryz.underlying44 rfl (by rw [sizeT83]; rfl)
    unfold execOp
    simp [ho, h1, Instr.loadAt, Instr.sureAddr, h4]
end
section
variable {P : Program} {ops : Array Oper} {Q : Exit → Act → World → Prop} {N : Nat} {Γ : Ctx} {a : Act} {w : World} {o1 o2 : Oper} {rest : List Oper}
/-- A variable made, and a table stored there. -/
theorem tlNewTab {T e : TypeId} {p q : Nat} {seed : Nat} {L : List Cl} {τ : Ty} (hF : Fr N Γ a w) (h1 : o1.op = .alloc T) (hg1 : o1.guard = none) (hd1 : o1.dst = some p) (hp : p < N) (hpq : Nat.beq p q = false)
    (hz : ∀ w : World, (Instr.alloc T true (.tuple #[])).run P w = .ok (.pointer (some ⟨w.heap.size, 0, none⟩)) (w.alloc (.cells #[.int .u64 0, .slice none 0 0] T)))
    (h2 : o2.op = .store T (.tmp p) (.tmp q)) (hg2 : o2.guard = none) (hd2 : o2.dst = none) (hq : look Γ q = some τ) (hτ : ∀ w v, τ.p w v → (Ty.tab e seed L).p w v) (hi : (P.info? T).map (·.size) = some 2)
    (hk : ∀ a' w', Fr N ((p, Ty.tabP T e seed L) :: Γ) a' w' → Below w.heap.size w w' → wpList P ops Q rest a' w') : wpList P ops Q (o1 :: o2 :: rest) a w := by
  obtain ⟨v, hv2, hFo⟩ := hF.open hq
  obtain ⟨s, rfl, hs⟩ := hτ _ _ hv2
  refine wpList_plain hg1 fun K hK => ?_
  unfold Oper.wp execOp
  simp only [h1, Sem.run_bind, hz, Result.andThen_ok, Sem.run_pure]
  refine hK _ _ ?_
  rw [hd1]
  have hb1 : Below w.heap.size w (w.alloc (.cells #[.int .u64 0, .slice none 0 0] T)) := ((Keeps.refl [] w).alloc _).below
  have hF1 : Fr N ((p, Ty.ex (.pointer (some ⟨w.heap.size, 0, none⟩))) :: (q, Ty.ex (.agg #[.int .u64 (seed : Int), s])) :: Γ) (a.put (some p) (.pointer (some ⟨w.heap.size, 0, none⟩))) (w.alloc (.cells #[.int .u64 0, .slice none 0 0] T)) := hFo.put hp hb1 rfl
  have hv3 := hF1.getEx (s := q) (v := .agg #[.int .u64 (seed : Int), s]) (by rw [look]; simp only [hpq, cond_false]; exact look_same _ _ _)
  refine tlStoreV (Δ := []) hF1 hg2 hd2 h2 (look_same _ _ _) hv3 (Blk.new w _ _) rfl (by rw [hi]; rfl) (sl_one hs _) (hF1.keep []) rfl ?_
  intro w' _ hb' hkx
  have hB := below_own hb1 hkx (by intro y hy; simp only [List.mem_singleton] at hy; omega)
  refine hk _ _ (hF.put hp hB ⟨s, ⟨w.heap.size, 0, _, (0, 0), rfl, hb', fun j u h => by simpa [Value.cells] using h⟩, (Ty.cls e L).below hs hB⟩) hB
end

theorem newE_good {n : Int} (h : goodN n = true) : newE n = .int .i64 0 := by unfold newE; rw [h]; rfl
theorem newE_bad {n : Int} (h : goodN n = false) : newE n = .int .i64 1 := by unfold newE; rw [h]; rfl
theorem newS_good {seed : Nat} {n : Int} (h : goodN n = true) : newS seed n = seed := by unfold newS; rw [h]; rfl
theorem minOk_good {s : Nat} {A B : List Cl} (h : goodN (A.length : Int) = true) (hl : A.length = B.length) : minOk s s A B = true := by unfold minOk; rw [h, decide_eq_true hl, decide_eq_true rfl]; rfl
end Go.Proofs.YtmlbkcpmgcjblaaGreat

/- The peeler's memory; lines for its fields. -/
namespace Go.Proofs.YtmlbkcpmgcjblaaGreat
open Go.RowKit

abbrev PeelT : TypeId := 88
section
variable {P : Program} {w0 : World} {Γ : Ctx} {o : Oper} {x : Operand}
theorem cNilOk {A : Addr} (ho : o.op = .nilCheck x) (hx : OpT Γ x (Ty.ex (.pointer (some A)))) : OpOk P w0 Γ o (Ty.ex (.pointer (some A))) :=
  .val fun a w _ hs => by
    obtain ⟨v, h1, h2⟩ := hs x _ (by simp [ho, Op.operands]) hx
    have h2 : v = .pointer (some A) := h2
    refine ⟨_, rfl, ?_⟩
    unfold execOp
    simp [ho, h1, h2]
/-- A part of a triple that is known. -/
theorem cExtV {i : Nat} {vs : Array Value} {v : Value} (ho : o.op = .extract x i) (hx : OpT Γ x (Ty.ex (.tuple vs))) (hi : vs[i]? = some v) : OpOk P w0 Γ o (Ty.ex v) :=
  .val fun a w _ hs => by
    obtain ⟨u, h1, h2⟩ := hs x _ (by simp [ho, Op.operands]) hx
    have h2 : u = .tuple vs := h2
    refine ⟨_, rfl, ?_⟩
    unfold execOp
    simp [ho, h1, h2, Instr.extract, hi]
end
/-- The peeler's cells. -/
def peelCells (seed : Nat) (sL sP : Value) (bm : Nat) (s0 s1 : Value) : List Value := [.int .u64 (seed : Int), sL, sP, .map (some bm), s0, s1]
/-- A peeler at block gp: a table, which cells are pure, the sums had, the sums of both ways. -/
structure PeelMem (w : World) (gp seed : Nat) (sL sP : Value) (bm : Nat) (s0 s1 : Value) (L : List Cl) (B : List Bool) (S r0 r1 : List Sm) (SL SP S0 S1 : List Nat) (n : Nat) : Prop where
  blk : Blk w gp PeelT (peelCells seed sL sP bm s0 s1).toArray
  tab : Seg w 41 65 sL L.length (flatC L) SL
  pure : Seg w 4 1 sP L.length (B.map bvl) SP
  had : MapIs w bm n S
  minus : Seg w 36 32 s0 r0.length (flat r0) S0
  plus : Seg w 36 32 s1 r1.length (flat r1) S1
  apart : ∀ y ∈ S0, y ∉ S1
theorem PeelMem.below {w w' : World} {gp seed bm n : Nat} {sL sP s0 s1 : Value} {L : List Cl} {B : List Bool} {S r0 r1 : List Sm} {SL SP S0 S1 : List Nat} (h : PeelMem w gp seed sL sP bm s0 s1 L B S r0 r1 SL SP S0 S1 n) (hb : Below w.heap.size w w') : PeelMem w' gp seed sL sP bm s0 s1 L B S r0 r1 SL SP S0 S1 n :=
  ⟨h.blk.below hb, h.tab.below hb, h.pure.below hb, h.had.keeps (Keeps.of_below (S := []) hb) (by simp), h.minus.below hb, h.plus.below hb, h.apart⟩
theorem PeelMem.at_ {w : World} {gp seed bm n : Nat} {sL sP s0 s1 : Value} {L : List Cl} {B : List Bool} {S r0 r1 : List Sm} {SL SP S0 S1 : List Nat} (h : PeelMem w gp seed sL sP bm s0 s1 L B S r0 r1 SL SP S0 S1 n) : (Ty.at_ PeelT (peelCells seed sL sP bm s0 s1)).p w (.pointer (some ⟨gp, 0, none⟩)) := ⟨gp, 0, _, (0, 0), rfl, h.blk, fun j u hu => by simpa using hu⟩
section
variable {w0 : World} {Γ : Ctx} {o : Oper} {x : Operand} {e : TypeId} {xs : List Value}
theorem cPeelT (ho : o.op = .fieldAddr PeelT x 0) (hx : Has w0 Γ x (Ty.at_ e xs)) : OpOk Tryz.prog w0 Γ o (Ty.at_ e xs) :=
  (cFieldE (P := Tryz.prog) ho hx Tryz.underlying88 rfl sizeT46).conv fun _ _ h => h
theorem cPeelP (ho : o.op = .fieldAddr PeelT x 1) (hx : Has w0 Γ x (Ty.at_ e xs)) : OpOk Tryz.prog w0 Γ o (Ty.at_ e (xs.drop 2)) :=
  cFieldE (P := Tryz.prog) (sz := 0) ho hx Tryz.underlying88 rfl (by kernel_rfl)
theorem cPeelM (ho : o.op = .fieldAddr PeelT x 2) (hx : Has w0 Γ x (Ty.at_ e xs)) : OpOk Tryz.prog w0 Γ o (Ty.at_ e (xs.drop 3)) :=
  cFieldE (P := Tryz.prog) (sz := 0) ho hx Tryz.underlying88 rfl (by kernel_rfl)
theorem cPeelR (ho : o.op = .fieldAddr PeelT x 3) (hx : Has w0 Γ x (Ty.at_ e xs)) : OpOk Tryz.prog w0 Γ o (Ty.at_ e (xs.drop 4)) :=
  cFieldE (P := Tryz.prog) (sz := 1) ho hx Tryz.underlying88 rfl (by kernel_rfl)
end
end Go.Proofs.YtmlbkcpmgcjblaaGreat

/- The peeler's look. -/
namespace Go.Proofs.YtmlbkcpmgcjblaaGreat
open Go.RowKit

section
variable {P : Program} {w0 : World} {Γ : Ctx} {o : Oper} {x : Operand}
theorem cNilAt {e : TypeId} {xs : List Value} (ho : o.op = .nilCheck x) (hx : OpT Γ x (Ty.at_ e xs)) : OpOk P w0 Γ o (Ty.at_ e xs) :=
  .val fun a w _ hs => by
    obtain ⟨v, h1, g, off, cs, fr, rfl, h2⟩ := hs x _ (by simp [ho, Op.operands]) hx
    refine ⟨_, ⟨g, off, cs, fr, rfl, h2⟩, ?_⟩
    unfold execOp
    simp [ho, h1]
end
theorem cFldLx {w0 : World} {Γ : Ctx} {o : Oper} {x : Operand} {e : TypeId} {xs : List Value} (ho : o.op = .fieldAddr 27 x 1) (hx : Has w0 Γ x (Ty.at_ e xs)) : OpOk Tryz.prog w0 Γ o (Ty.at_ e (xs.drop 1)) := cFieldE (P := Tryz.prog) ho hx Tryz.underlying27 rfl size_row46
theorem cFldSx {w0 : World} {Γ : Ctx} {o : Oper} {x : Operand} {e : TypeId} {xs : List Value} (ho : o.op = .fieldAddr 27 x 0) (hx : Has w0 Γ x (Ty.at_ e xs)) : OpOk Tryz.prog w0 Γ o (Ty.at_ e xs) := (cFieldE (P := Tryz.prog) ho hx Tryz.underlying27 rfl size_u64).conv fun _ _ h => h
theorem over_bool (B : List Bool) {i : Nat} (p : Bool) (hi : i < B.length) : over (B.map bvl) (i * 1) [bvl p] = (B.set i p).map bvl := by
  unfold over
  rw [List.length_singleton, Nat.mul_one, List.set_eq_take_append_cons_drop, if_pos hi, List.map_append, List.map_cons, List.map_take, List.map_drop]
  simp
section
variable {P : Program} {ops : Array Oper} {Q : Exit → Act → World → Prop} {N : Nat} {Γ : Ctx} {a : Act} {w : World} {o : Oper} {rest : List Oper}
/-- Whatever value is stored into a row of one's own. -/
theorem tlStoreAtV {Δ : Ctx} {ty e : TypeId} {p : Nat} {y : Operand} {sz g off n cap k : Nat} {xs : List Value} {v : Value} (hF : Fr N Γ a w) (hg : o.guard = none) (hd : o.dst = none) (ho : o.op = .store ty (.tmp p) y) (hp : look Γ p = some (Ty.ex (.pointer (some ⟨g, off + k, none⟩)))) (hy : a.eval y = v)
    (hseg : SegL w e sz g off n cap xs) (hk : k + v.cells.size ≤ n * sz) (hi : (P.info? ty).map (·.size) = some v.cells.size) (h1 : v.cells.all (·.oneCell') = true) (hΔ : Fr N Δ a w) (hfree : Δ.free e = true)
    (hq : ∀ w', Fr N Δ a w' → SegL w' e sz g off n cap (over xs k v.cells.toList) → Keeps [g] w w' → wpList P ops Q rest a w') : wpList P ops Q (o :: rest) a w := by
  refine wpList_plain hg fun K hK => ?_
  unfold Oper.wp execOp
  simp only [ho, hF.getEx hp, hy, Instr.storeAt, Instr.sureAddr, Sem.run_bind, Sem.run_pure, Result.andThen_ok, storeVar_cells ty _ v, run_storeVar_mid w g (off + k) ty v.cells (hseg.there hk) hi h1]
  obtain ⟨h2, h3⟩ := hseg.write (k := k) (vs := v.cells.toList) (by simpa using hk)
  refine hK _ _ ?_
  rw [hd]
  refine hq _ (hΔ.free h3 (fun b hb _ => ?_) hfree) h2 h3
  simp only [List.mem_singleton] at hb
  subst hb
  exact hseg.block
end
theorem ret0 {P : Program} {fn : Func} {R : Ending → World → Prop} {a : Act} {w : World} (hr : fn.results = #[]) (hd : a.defers = []) (hR : R (.returned (.tuple #[])) w) : bodyPost P fn R .normal a w := bodyPost_end (v := .tuple #[]) (by simp [results, hr]) hd hR
theorem Cl.sum_ok {c : Cl} (h : c.ok = true) : c.sum = c.key := by unfold Cl.sum; rw [h]; rfl
theorem segs_far {w : World} {e e2 : TypeId} {sz sz2 n g off n2 cap : Nat} {v : Value} {xs ys : List Value} {S : List Nat} (h : Seg w e sz v n xs S) (hb : SegL w e2 sz2 g off n2 cap ys) (hne : (e2 == e) = false) : ∀ y ∈ S, y ∉ [g] := fun y hy hm => by
  simp only [List.mem_singleton] at hm
  subst hm
  obtain ⟨cs, fr, h1⟩ := hb.block
  obtain ⟨cs', fr', h2⟩ := h.blocks y hy (Array.getElem?_eq_some_iff.1 h1).1
  rw [h1] at h2
  simp only [Option.some.injEq, Obj.cells.injEq] at h2
  rw [h2.2.1] at hne
  simp at hne
theorem peel_stored {w w' : World} {gp seed bm n g off cap : Nat} {sL sP s0 s1 : Value} {L : List Cl} {B B' : List Bool} {S r0 r1 : List Sm} {SL SP S0 S1 : List Nat} (h : PeelMem w gp seed sL sP bm s0 s1 L B S r0 r1 SL SP S0 S1 n) (h0 : SegL w 4 1 g off L.length cap (B.map bvl)) (hk : Keeps [g] w w') (h1 : SegL w' 4 1 g off L.length cap (B'.map bvl)) (eS : SP = [g]) (eP : sP = .slice (some ⟨g, off, none⟩) L.length cap) : PeelMem w' gp seed sL sP bm s0 s1 L B' S r0 r1 SL SP S0 S1 n := by
  subst eS eP
  refine ⟨h.blk.keeps hk ?_, h.tab.keeps hk (segs_far h.tab h0 (by decide)), h1.seg, h.had.keeps hk ?_, h.minus.keeps hk (segs_far h.minus h0 (by decide)), h.plus.keeps hk (segs_far h.plus h0 (by decide)), h.apart⟩
  · intro hm
    simp only [List.mem_singleton] at hm
    exact segl_far h0 h.blk (by decide) hm
  · intro hm
    simp only [List.mem_singleton] at hm
    subst hm
    obtain ⟨cs, fr, h2⟩ := h0.block
    obtain ⟨es, clock, h3⟩ := h.had.obj
    rw [h2] at h3
    cases h3
set_option maxRecDepth 100000 in
set_option maxHeartbeats 4000000 in
theorem look_any {w : World} {gp seed bm n : Nat} {sL sP s0 s1 : Value} {L : List Cl} {B : List Bool} {S r0 r1 : List Sm} {SL SP S0 S1 : List Nat} (h : PeelMem w gp seed sL sP bm s0 s1 L B S r0 r1 SL SP S0 S1 n) (hBL : B.length = L.length) (hsd : seed < 18446744073709551616) {i : Nat} (hi : i < L.length) :
    Calls Tryz.prog 30 #[.pointer (some ⟨gp, 0, none⟩), .int .i64 (i : Int)] w fun e w' => e = .returned (.tuple #[]) ∧ PeelMem w' gp seed sL sP bm s0 s1 L (B.set i (pureAt seed L i)) S r0 r1 SL SP S0 S1 n ∧ Keeps SP w w' := by
  have hPu := pure_ty (L.getD i default)
  have hok := Cl.sum_ok (c := L.getD i default)
  have ePA : pureAt seed L i = ((L.getD i default).ok && isAt seed L.length i (L.getD i default).key) := rfl
  refine enter_ty 44 [Ty.at_ PeelT (peelCells seed sL sP bm s0 s1), Ty.ex (.int .i64 (i : Int))] Tryz.func30 rfl (by kernel_rfl) ⟨h.at_, rfl, trivial⟩ fun a hF => ?_
  have hB := Below.refl w.heap.size w
  repeat with_reducible refine wp_seq ?_
  refine wp_region_lit ?_
  refine' tlOp hF rfl rfl rfl ?_ ?_
  rotate_left
  · exact cMove rfl rfl
  intro a w1 hF hb
  have hBs := hB.size
  replace hB := hB.trans (hb.mono hB.size)
  try (refine wpList_nil ?_)
  refine' tlOp hF rfl rfl rfl ?_ ?_
  rotate_left
  · exact cNilAt rfl rfl
  intro a w2 hF hb
  have hBs := hB.size
  replace hB := hB.trans (hb.mono hB.size)
  try (refine wpList_nil ?_)
  refine' tlOp hF rfl rfl rfl ?_ ?_
  rotate_left
  · exact cPeelT rfl (.t rfl)
  intro a w3 hF hb
  have hBs := hB.size
  replace hB := hB.trans (hb.mono hB.size)
  try (refine wpList_nil ?_)
  refine' tlOp hF rfl rfl rfl ?_ ?_
  rotate_left
  · exact cFldLx rfl (.t rfl)
  intro a w4 hF hb
  have hBs := hB.size
  replace hB := hB.trans (hb.mono hB.size)
  try (refine wpList_nil ?_)
  refine' tlOp hF rfl rfl rfl ?_ ?_
  rotate_left
  · exact cLoad1 (u := sL) rfl (.t rfl) (pts_at _ _) Tryz.underlying24 rfl
  intro a w5 hF hb
  have hBs := hB.size
  replace hB := hB.trans (hb.mono hB.size)
  try (refine wpList_nil ?_)
  replace hF := hF.as hF (s := 12) (σ := Ty.cls 41 L) rfl (fun v hv => by rw [show v = sL from hv]; exact (h.below hB).tab.sl)
  refine' tlOp hF rfl rfl rfl ?_ ?_
  rotate_left
  · exact cMove rfl rfl
  intro a w6 hF hb
  have hBs := hB.size
  replace hB := hB.trans (hb.mono hB.size)
  try (refine wpList_nil ?_)
  refine' tlOp hF rfl rfl rfl ?_ ?_
  rotate_left
  · exact cIndexCl (k := i) rfl (.t rfl) rfl Tryz.underlying24 info34 hi
  intro a w7 hF hb
  have hBs := hB.size
  replace hB := hB.trans (hb.mono hB.size)
  try (refine wpList_nil ?_)
  refine' tlOp hF rfl rfl rfl ?_ ?_
  rotate_left
  · exact cLoadCl34 rfl (.t rfl)
  intro a w8 hF hb
  have hBs := hB.size
  replace hB := hB.trans (hb.mono hB.size)
  try (refine wpList_nil ?_)
  refine' tlOp hF rfl rfl rfl ?_ ?_
  rotate_left
  · exact cCall1 rfl rfl hPu
  intro a w9 hF hb
  have hBs := hB.size
  replace hB := hB.trans (hb.mono hB.size)
  try (refine wpList_nil ?_)
  refine' tlOp hF rfl rfl rfl ?_ ?_
  rotate_left
  · exact cMove rfl rfl
  intro a w10 hF hb
  have hBs := hB.size
  replace hB := hB.trans (hb.mono hB.size)
  try (refine wpList_nil ?_)
  refine' tlOp hF rfl rfl rfl ?_ ?_
  rotate_left
  · exact cExtV rfl rfl rfl
  intro a w11 hF hb
  have hBs := hB.size
  replace hB := hB.trans (hb.mono hB.size)
  try (refine wpList_nil ?_)
  refine' tlOp hF rfl rfl rfl ?_ ?_
  rotate_left
  · exact cExtV rfl rfl rfl
  intro a w12 hF hb
  have hBs := hB.size
  replace hB := hB.trans (hb.mono hB.size)
  try (refine wpList_nil ?_)
  refine' tlOp hF rfl rfl rfl ?_ ?_
  rotate_left
  · exact cExtV rfl rfl rfl
  intro a w13 hF hb
  have hBs := hB.size
  replace hB := hB.trans (hb.mono hB.size)
  try (refine wpList_nil ?_)
  have hw13 := hB.size
  refine' tlOp hF rfl rfl rfl ?_ ?_
  rotate_left
  · exact cAllocN rfl (run_alloc_i infoS)
  intro a w14 hF hb
  have hBs := hB.size
  replace hB := hB.trans (hb.mono hB.size)
  try (refine wpList_nil ?_)
  obtain ⟨z, ⟨g4, rfl, hg4, hb4⟩, hF⟩ := hF.open (s := 4) rfl
  have hg4 : w13.heap.size ≤ g4 := hg4
  refine tlStoreV (Δ := [(0, Ty.at_ PeelT (peelCells seed sL sP bm s0 s1)), (1, Ty.ex (.int .i64 (i : Int))), (4, Ty.ex (.pointer (some ⟨g4, 0, none⟩))), (18, Ty.ex (.bool (L.getD i default).plus)), (19, Ty.ex (.bool (L.getD i default).ok))]) hF rfl rfl rfl rfl (hF.getEx (s := 17) rfl) hb4 (sumSz _) (by show _ = some (u8s _).size; rw [Sm.size]; exact sizeS) (u8s_one _) (hF.keep [0, 1, 4, 18, 19]) rfl ?_
  intro w15 hF hb4' hkx
  replace hB := below_own hB hkx (by intro y hy; simp only [List.mem_singleton] at hy; omega)
  have hx4 : (Ty.at_ 36 (L.getD i default).sum.enc).p w15 (.pointer (some ⟨g4, 0, none⟩)) := by
    have h : (Ty.at_ 36 (Value.agg (u8s (L.getD i default).sum.l)).cells.toList).p w15 (.pointer (some ⟨g4, 0, none⟩)) := blk_at hb4'
    rwa [show (Value.agg (u8s (L.getD i default).sum.l)).cells.toList = (L.getD i default).sum.enc from u8s_list _] at h
  replace hF := hF.as hF (s := 4) (σ := Ty.at_ 36 (L.getD i default).sum.enc) rfl (fun v hv => by rw [show v = .pointer (some ⟨g4, 0, none⟩) from hv]; exact hx4)
  refine' tlOp hF rfl rfl rfl ?_ ?_
  rotate_left
  · exact cAssign rfl rfl
  intro a w16 hF hb
  have hBs := hB.size
  replace hB := hB.trans (hb.mono hB.size)
  try (refine wpList_nil ?_)
  refine' tlOp hF rfl rfl rfl ?_ ?_
  rotate_left
  · exact cAssign rfl rfl
  intro a w17 hF hb
  have hBs := hB.size
  replace hB := hB.trans (hb.mono hB.size)
  try (refine wpList_nil ?_)
  repeat with_reducible refine nThen ?_
  replace h := h.below hB
  have hPp := places_ty seed (L.length : Int) (L.getD i default).sum hsd
  have hPl3 := placesN_len3 seed (L.length : Int) (L.getD i default).sum
  have hIs : isAt seed L.length i (L.getD i default).sum = decide (i ∈ placesN seed (L.length : Int) (L.getD i default).sum) := rfl
  generalize placesN seed (L.length : Int) (L.getD i default).sum = PL at *
  have hCo := contInt_ty PL i (by omega)
  obtain ⟨g, off, cap, eP, eS, hsl⟩ : ∃ g off cap, sP = .slice (some ⟨g, off, none⟩) L.length cap ∧ SP = [g] ∧ SegL w17 4 1 g off L.length cap (B.map bvl) := by
    rcases h.pure.cases with ⟨_, h0, _⟩ | h
    · omega
    · exact h
  have hsL := h.tab.sl
  obtain ⟨p, hp⟩ : ∃ p, p = pureAt seed L i := ⟨_, rfl⟩
  rw [← hp] at ePA ⊢
  refine wp_mono (Q := fun e a w' => e = .normal ∧ a.defers = [] ∧ PeelMem w' gp seed sL sP bm s0 s1 L (B.set i p) S r0 r1 SL SP S0 S1 n ∧ Keeps SP w w') ?_ ?_
  · subst eP
    cases hk1 : (L.getD i default).ok with
    | true =>
      rw [hk1] at hF ePA
      rw [Bool.true_and, ← hok hk1, hIs] at ePA
      rw [← ePA] at hCo
      refine' region_ty 24 mixed (by kernel_rfl) hF ?_ ?_
      rotate_left
      · simp only [List.take_succ_cons, List.take_zero]
        repeat (first | exact Line.nil | ((first | refine' Line.cons rfl (.run rfl rfl ?_) ?_ | refine' Line.cons rfl (.yes rfl rfl rfl rfl ?_) ?_); (any_goals (first | exact cMove rfl rfl | exact cNilAt rfl rfl | exact cPeelP rfl (.t rfl) | exact cLoad1 (u := .slice (some ⟨g, off, none⟩) L.length cap) rfl (.t rfl) (pts_at _ _) Tryz.underlying84 rfl | exact cPeelT rfl (.t rfl) | exact cFldSx rfl (.t rfl) | exact cLoadU64 rfl (.t rfl) | exact cFldLx rfl (.t rfl) | exact cLoad1 (u := sL) rfl (.t rfl) (pts_at _ _) Tryz.underlying24 rfl | exact cLenH rfl (.l rfl hsL) (Ty.sl_isSl _ _ _) Tryz.underlying24 | exact cLoadSum rfl (.t rfl) Tryz.underlying36 sizeS | exact cCall3 rfl rfl rfl rfl hPp | exact cCallH2 rfl (.t rfl) (.t rfl) hCo | exact cIndexEx (k := i) (sz := 1) rfl rfl rfl Tryz.underlying84 sizeBool hi | exact cPickT rfl rfl rfl)); rotate_left))
      intro a w18 hF hb hN
      have hBs := hB.size
      replace hB := hB.trans (hb.mono hB.size)
      simp only [List.take_succ_cons, List.take_zero, List.drop_succ_cons, List.drop_zero] at hF hN ⊢
      dsimp only [ext, Option.getD] at hF
      replace hsl := hsl.below hb
      replace h := h.below hb
      have hsl0 := hsl
      have hB0 := hB
      refine tlStoreAtV (Δ := []) (k := i * 1) hF rfl rfl rfl rfl (hF.getEx (s := 42) rfl) hsl (by show i * 1 + 1 ≤ _; omega) sizeBool (by simp [Value.cells, Value.oneCell']) hF.nil rfl ?_
      intro w19 hF hsl hk8
      refine wpList_nil ?_
      rw [show (Value.bool p).cells.toList = [bvl p] from rfl, over_bool B _ (by omega)] at hsl
      exact ⟨rfl, hF.defers, peel_stored h hsl0 hk8 hsl eS rfl, by rw [eS]; exact (Keeps.of_below hB).trans hk8⟩
    | false =>
      rw [hk1] at hF ePA
      rw [Bool.false_and] at ePA
      subst ePA
      refine' region_ty 24 mixed (by kernel_rfl) hF ?_ ?_
      rotate_left
      · simp only [List.take_succ_cons, List.take_zero]
        repeat (first | exact Line.nil | (refine' Line.cons rfl (.no rfl rfl rfl rfl rfl rfl) ?_; rotate_left) | ((refine' Line.cons rfl (.run rfl rfl ?_) ?_); (any_goals (first | exact cMove rfl rfl | exact cNilAt rfl rfl | exact cPeelP rfl (.t rfl) | exact cLoad1 (u := .slice (some ⟨g, off, none⟩) L.length cap) rfl (.t rfl) (pts_at _ _) Tryz.underlying84 rfl | exact cIndexEx (k := i) (sz := 1) rfl rfl rfl Tryz.underlying84 sizeBool hi | exact cPickF rfl rfl rfl)); rotate_left))
      intro a w18 hF hb hN
      have hBs := hB.size
      replace hB := hB.trans (hb.mono hB.size)
      simp only [List.take_succ_cons, List.take_zero, List.drop_succ_cons, List.drop_zero] at hF hN ⊢
      dsimp only [ext, Option.getD] at hF
      replace hsl := hsl.below hb
      replace h := h.below hb
      have hsl0 := hsl
      have hB0 := hB
      refine tlStoreAtV (Δ := []) (k := i * 1) hF rfl rfl rfl rfl (hF.getEx (s := 42) rfl) hsl (by show i * 1 + 1 ≤ _; omega) sizeBool (by simp [Value.cells, Value.oneCell']) hF.nil rfl ?_
      intro w19 hF hsl hk8
      refine wpList_nil ?_
      rw [show (Value.bool false).cells.toList = [bvl false] from rfl, over_bool B _ (by omega)] at hsl
      exact ⟨rfl, hF.defers, peel_stored h hsl0 hk8 hsl eS rfl, by rw [eS]; exact (Keeps.of_below hB).trans hk8⟩
  rintro e a w' ⟨rfl, hd, h1, h2⟩
  exact ret0 rfl hd ⟨rfl, h1, h2⟩
end Go.Proofs.YtmlbkcpmgcjblaaGreat

/- Peeling, plainly: a table of nothing; a table of one. -/
namespace Go.Proofs.YtmlbkcpmgcjblaaGreat
open Go.RowKit

theorem zero_bad : Cl.zero.ok = false := by unfold Cl.ok Cl.zero; simp
theorem nextI_none {seed : Nat} {L : List Cl} (h : ∀ j, j < L.length → pureAt seed L j = false) : nextI seed L = L.length := by
  unfold nextI
  have h1 := firstP_le (pureAt seed L) L.length 0
  rcases Nat.lt_or_ge (firstP (pureAt seed L) 0 L.length) L.length with h2 | h2
  · have h3 := firstP_at _ _ _ h2
    rw [Nat.zero_add, h _ h2] at h3
    cases h3
  · omega
theorem pure_zero {seed : Nat} {L : List Cl} (h : allZ L = true) : nextI seed L = L.length := nextI_none fun j hj => by
  unfold pureAt
  rw [allZ_iff.1 h j hj, zero_bad, Bool.false_and]
theorem run_zero {seed m : Nat} {s : Pst} (h : allZ s.L = true) : Pst.run seed m s = s := by
  cases m with
  | zero => rfl
  | succ m =>
    unfold Pst.run
    rw [pure_zero h, if_neg (Nat.lt_irrefl _)]
theorem put_one (x : Sm) (n : Int) (hn : n = 1 ∨ n = -1) : (Cl.zero.put x n).n = n ∧ (Cl.zero.put x n).key = x ∧ (Cl.zero.put x n).ok = true := by
  have e1 : wrap64 (Cl.zero.n + n) = n := by
    show wrap64 (0 + n) = n
    rw [Int.zero_add]
    exact w64_in (by omega)
  have e2 : Sm.zero.xor x = x := by rw [Sm.xor_comm, Sm.xor_zero]
  have e3 : Sm.zero.xor (chk x) = chk x := by rw [Sm.xor_comm, Sm.xor_zero]
  refine ⟨e1, e2, ?_⟩
  unfold Cl.ok Cl.put
  dsimp only
  rw [e1, show Cl.zero.key.xor x = x from e2, show Cl.zero.check.xor (chk x) = chk x from e3]
  rcases hn with rfl | rfl <;> simp
theorem Pst.take_few {seed : Nat} (s : Pst) (i : Nat) : (s.take seed i).plus.length + (s.take seed i).minus.length = s.plus.length + s.minus.length + 1 := by
  unfold Pst.take
  dsimp only
  split <;> simp only [List.length_append, List.length_cons, List.length_nil] <;> omega
theorem Pst.run_few {seed : Nat} : ∀ (m : Nat) (s : Pst), (Pst.run seed m s).plus.length + (Pst.run seed m s).minus.length ≤ s.plus.length + s.minus.length + m
  | 0, _ => Nat.le_refl _
  | m + 1, s => by
    unfold Pst.run
    split
    · have h1 := Pst.run_few (seed := seed) m (s.take seed (nextI seed s.L))
      have h2 := Pst.take_few (seed := seed) s (nextI seed s.L)
      omega
    · omega
/-- At most 1025 come out. -/
theorem peel_few (seed : Nat) (L : List Cl) : (peelS seed L).plus.length + (peelS seed L).minus.length ≤ 1025 := by
  have h := Pst.run_few (seed := seed) 1025 ⟨L, [], [], true⟩
  have e : ([] : List Sm).length + ([] : List Sm).length + 1025 = 1025 := rfl
  unfold peelS
  exact Nat.le_trans h (Nat.le_of_eq e)
end Go.Proofs.YtmlbkcpmgcjblaaGreat

/- Layer 15 by types: TableApart. -/
namespace Go.Proofs.YtmlbkcpmgcjblaaGreat
open Go.RowKit

theorem ints_rdA {W : World} {a : Option Addr} {n cap : Nat} {l : List Int} (hl : l.length = n) (hn : n ≤ maxLen) (hN : a = none → n = 0) (hr : Rd W a (l.map (Value.int .i64))) : (Ty.rd l.length (l.map ivz)).p W (.slice a n cap) := by
  subst hl
  exact ⟨a, cap, rfl, hn, hN, hr⟩
theorem ofL_get {seed : Nat} {n : Int} {D : List Sm} (hg : goodN n = true) {j : Nat} (hj : j < n.toNat) : (ofL seed n D).getD j default = putAll 1 Cl.zero ((setL D).filter (isAt seed n.toNat j)) := by
  unfold ofL
  rw [if_pos hg, tall_get _ _ _ _ (by rw [tzero_len]; exact hj), tzero_get hj, tzero_len]
theorem ofL_apart {seed : Nat} {n : Int} (hg : goodN n = true) (X Y : List Sm) : tminus (ofL seed n X) (ofL seed n Y) = tminus (ofL seed n (minusL X Y)) (ofL seed n (minusL Y X)) := by
  have hl : ∀ D E : List Sm, (ofL seed n D).length = (ofL seed n E).length := fun D E => by rw [ofL_len hg, ofL_len hg]
  have hR : (setL Y).filter (fun x => decide (x ∈ X)) = (setL X).filter (fun x => decide (x ∈ Y)) := srt_ext (srt_filter (setL_srt Y) _) (srt_filter (setL_srt X) _) fun x => by
    simp only [List.mem_filter, setL_mem, decide_eq_true_eq]
    exact And.comm
  have e1 : setL (minusL X Y) = minusL X Y := setL_self (minusL_srt _ _)
  have e2 : setL (minusL Y X) = minusL Y X := setL_self (minusL_srt _ _)
  apply list_extD
  · rw [tminus_len (hl _ _), tminus_len (hl _ _), ofL_len hg, ofL_len hg]
  · intro j hj
    rw [tminus_len (hl _ _), ofL_len hg] at hj
    rw [tminus_get (hl _ _) (by rw [ofL_len hg]; exact hj), tminus_get (hl _ _) (by rw [ofL_len hg]; exact hj), ofL_get hg hj, ofL_get hg hj, ofL_get hg hj, ofL_get hg hj, e1, e2]
    refine putAll_less Cl.zero (R := ((setL X).filter (fun x => decide (x ∈ Y))).filter (isAt seed n.toNat j)) ?_ ?_
    · have h := (setless (A := X) (B := Y)).filter (isAt seed n.toNat j)
      rwa [List.filter_append] at h
    · have h := (setless (A := Y) (B := X)).filter (isAt seed n.toNat j)
      rw [List.filter_append, hR] at h
      exact h
end Go.Proofs.YtmlbkcpmgcjblaaGreat

/- Peeling, plainly: what All and Own answer; the laws of chapter 16. -/
namespace Go.Proofs.YtmlbkcpmgcjblaaGreat
open Go.RowKit

def peelOk (seed : Nat) (L : List Cl) : Bool := goodN (L.length : Int) && (peelS seed L).fine
def resP (seed : Nat) (L : List Cl) : List Sm := if peelOk seed L then setL (peelS seed L).plus else []
def resM (seed : Nat) (L : List Cl) : List Sm := if peelOk seed L then setL (peelS seed L).minus else []
def resN (seed : Nat) (L : List Cl) : Int := if goodN (L.length : Int) then (if peelOk seed L then 0 else 10) else 1
def resS (seed : Nat) (L : List Cl) : Nat := if goodN (L.length : Int) then seed else 0
def resL (seed : Nat) (L : List Cl) : List Cl := if goodN (L.length : Int) then (peelS seed L).L else []
/-- Another's table less that of one's own. -/
def ownD (seed : Nat) (L : List Cl) (M : List Sm) : List Cl := tminus L (ofL seed (L.length : Int) M)
def ownB (seed : Nat) (L : List Cl) (M : List Sm) : Bool := decide (0 < (minusL (resM seed (ownD seed L M)) M).length) || decide (0 < (bothL (resP seed (ownD seed L M)) M).length)
def ownN (seed : Nat) (L : List Cl) (M : List Sm) : Int := if goodN (L.length : Int) && goodL M then (if resN seed (ownD seed L M) = 0 then (if ownB seed L M then 10 else 0) else resN seed (ownD seed L M)) else 1
def ownP (seed : Nat) (L : List Cl) (M : List Sm) : List Sm := if ownN seed L M = 0 then resP seed (ownD seed L M) else []
def ownQ (seed : Nat) (L : List Cl) (M : List Sm) : List Sm := if ownN seed L M = 0 then resM seed (ownD seed L M) else []
theorem ofL_len' {seed : Nat} {L : List Cl} {M : List Sm} (hg : goodN (L.length : Int) = true) : (ofL seed (L.length : Int) M).length = L.length := by rw [ofL_len hg]; omega
theorem ownD_len {seed : Nat} {L : List Cl} {M : List Sm} (hg : goodN (L.length : Int) = true) : (ownD seed L M).length = L.length := tminus_len (ofL_len' hg).symm
section
variable {seed : Nat} {L : List Cl}
theorem resN_ok (h : peelOk seed L = true) : resN seed L = 0 := by
  unfold resN
  rw [h]
  unfold peelOk at h
  simp only [Bool.and_eq_true] at h
  rw [h.1]; rfl
theorem peel_few1 : (peelS seed L).plus.length ≤ 1025 ∧ (peelS seed L).minus.length ≤ 1025 := by
  have := peel_few seed L
  omega
theorem resP_len : (resP seed L).length ≤ 1025 := by
  unfold resP
  split
  · exact Nat.le_trans (setL_len _) peel_few1.1
  · simp
theorem resM_len : (resM seed L).length ≤ 1025 := by
  unfold resM
  split
  · exact Nat.le_trans (setL_len _) peel_few1.2
  · simp
theorem tof_minus (N : Nat) (P Q : List Sm) : tminus (tall seed (tzero N) P 1) (tall seed (tzero N) Q 1) = tall seed (tall seed (tzero N) P 1) Q (-1) := by
  have hl : (tall seed (tzero N) P 1).length = (tall seed (tzero N) Q 1).length := by rw [tall_len, tall_len]
  apply list_extD
  · rw [tminus_len hl, tall_len, tall_len, tall_len]
  · intro j hj
    rw [tminus_len hl, tall_len, tzero_len] at hj
    rw [tminus_get hl (by rw [tall_len, tzero_len]; exact hj), tall_get seed 1 Q (tzero N) (by rw [tzero_len]; exact hj), tall_get seed (-1) Q (tall seed (tzero N) P 1) (by rw [tall_len, tzero_len]; exact hj), tall_get seed 1 P (tzero N) (by rw [tzero_len]; exact hj), tall_len, tzero_len, tzero_get hj, minus_putAll (n := 1) (m := -1) (by decide), minus_zero _ (putAll_norm _ _ _ zero_norm)]
theorem ofL_good' {n : Int} {D : List Sm} (hg : goodN n = true) : ofL seed n D = tall seed (tzero n.toNat) (setL D) 1 := by unfold ofL; rw [hg]; rfl
theorem setL_one (x : Sm) : setL [x] = [x] := setL_self (List.pairwise_singleton _ _)
end
/-- What Own tells where it tells. -/
theorem own_of {seed : Nat} {L : List Cl} {M : List Sm} (hg : goodN (L.length : Int) = true) (hM : goodL M = true) {P Q : List Sm} (hok : resN seed (ownD seed L M) = 0) (hP : resP seed (ownD seed L M) = P) (hQ : resM seed (ownD seed L M) = Q) (h1 : minusL Q M = []) (h2 : bothL P M = []) : ownN seed L M = 0 ∧ ownP seed L M = P ∧ ownQ seed L M = Q := by
  have hN : ownN seed L M = 0 := by
    unfold ownN ownB
    rw [hP, hQ, h1, h2, hg, hM, if_pos (by rfl), if_pos hok]; rfl
  refine ⟨hN, ?_, ?_⟩
  · unfold ownP; rw [if_pos hN, hP]
  · unfold ownQ; rw [if_pos hN, hQ]
end Go.Proofs.YtmlbkcpmgcjblaaGreat

/- Peeling, plainly: a table of one more and one less. -/
namespace Go.Proofs.YtmlbkcpmgcjblaaGreat
open Go.RowKit

theorem next_at {seed : Nat} {L : List Cl} {j : Nat} (hj : j < L.length) (h : pureAt seed L j = true) : nextI seed L < L.length ∧ pureAt seed L (nextI seed L) = true := by
  have hlt : nextI seed L < L.length := by
    rcases Nat.lt_or_ge (nextI seed L) L.length with h1 | h1
    · exact h1
    · have hle := firstP_le (pureAt seed L) L.length 0
      have := firstP_all (pureAt seed L) (k := L.length) (by unfold nextI at h1; omega) j hj
      rw [h] at this
      cases this
  have := firstP_at (pureAt seed L) L.length 0 (by unfold nextI at hlt; omega)
  rw [Nat.zero_add] at this
  exact ⟨hlt, this⟩
theorem run_next {seed m : Nat} {s : Pst} (h : nextI seed s.L < s.L.length) : Pst.run seed (m + 1) s = Pst.run seed m (s.take seed (nextI seed s.L)) := by
  conv => lhs; unfold Pst.run
  rw [if_pos h]
section
variable {seed N : Nat} {x y : Sm}
theorem one_cell (n : Int) {j : Nat} (hj : j < N) : (tput seed (tzero N) x n).getD j default = if isAt seed N j x then Cl.zero.put x n else Cl.zero := by
  rw [tput_get seed (tzero N) x n (by rw [tzero_len]; exact hj), tzero_len, tzero_get hj]
theorem one_pure (n : Int) (hn : n = 1 ∨ n = -1) {j : Nat} (hj : j < N) : pureAt seed (tput seed (tzero N) x n) j = isAt seed N j x := by
  unfold pureAt
  rw [one_cell n hj, tput_len, tzero_len]
  obtain ⟨h1, h2, h3⟩ := put_one x n hn
  by_cases hi : isAt seed N j x = true
  · rw [if_pos hi, h3, h2, hi]; rfl
  · rw [if_neg hi, zero_bad, Bool.false_and]; simpa using hi
theorem place_ex (hg : goodN (N : Int) = true) (x : Sm) : ∃ j, j < N ∧ isAt seed N j x = true := by
  have hpl : 0 < (placesN seed (N : Int) x).length := by
    unfold placesN
    rw [if_pos hg, plc_len]
    decide
  exact ⟨_, places_lt seed N x _ (getD_mem hpl), decide_eq_true (getD_mem hpl)⟩
/-- One that is left comes out. -/
theorem run_one (hg : goodN (N : Int) = true) (n : Int) (hn : n = 1 ∨ n = -1) (P Q : List Sm) (o : Bool) (m : Nat) (hP : x ∉ P) (hQ : x ∉ Q) : Pst.run seed (m + 1) ⟨tput seed (tzero N) x n, P, Q, o⟩ = if n = 1 then ⟨tzero N, P ++ [x], Q, o⟩ else ⟨tzero N, P, Q ++ [x], o⟩ := by
  have hlen : (tput seed (tzero N) x n).length = N := by rw [tput_len, tzero_len]
  obtain ⟨j, hj, hx⟩ := place_ex (seed := seed) hg x
  obtain ⟨h1, h2⟩ := next_at (by rw [hlen]; exact hj) ((one_pure n hn hj).trans hx)
  rw [run_next (s := ⟨tput seed (tzero N) x n, P, Q, o⟩) h1]
  dsimp only
  rw [hlen] at h1
  generalize nextI seed (tput seed (tzero N) x n) = i at *
  rw [one_pure n hn h1] at h2
  obtain ⟨e1, e2, _⟩ := put_one x n hn
  have hbk : ∀ m : Int, n + m = 0 → tput seed (tput seed (tzero N) x n) x m = tzero N := fun m hm => tput_back hm x (tzero_norm N)
  have htk : Pst.take seed ⟨tput seed (tzero N) x n, P, Q, o⟩ i = if n = 1 then ⟨tzero N, P ++ [x], Q, o⟩ else ⟨tzero N, P, Q ++ [x], o⟩ := by
    unfold Pst.take
    dsimp only
    rw [one_cell n h1, if_pos h2, e1, e2, decide_eq_false hP, decide_eq_false hQ]
    rcases hn with rfl | rfl
    · rw [if_pos rfl, if_pos rfl, hbk (-1) (by decide)]; simp
    · rw [if_neg (by decide), if_neg (by decide), hbk 1 (by decide)]; simp
  rw [htk]
  rcases hn with rfl | rfl
  · rw [if_pos rfl]; exact run_zero (allZ_tzero N)
  · rw [if_neg (by decide)]; exact run_zero (allZ_tzero N)
/-- One more and one less. -/
def twoT (seed N : Nat) (x y : Sm) : List Cl := tput seed (tput seed (tzero N) x 1) y (-1)
theorem two_len : (twoT seed N x y).length = N := by unfold twoT; rw [tput_len, tput_len, tzero_len]
theorem two_cell {j : Nat} (hj : j < N) : (twoT seed N x y).getD j default = if isAt seed N j y then (if isAt seed N j x then Cl.zero.put x 1 else Cl.zero).put y (-1) else (if isAt seed N j x then Cl.zero.put x 1 else Cl.zero) := by
  unfold twoT
  rw [tput_get _ _ _ _ (by rw [tput_len, tzero_len]; exact hj), tput_len, tzero_len, one_cell 1 hj]
theorem two_pure {j : Nat} (hj : j < N) : pureAt seed (twoT seed N x y) j = (isAt seed N j x != isAt seed N j y) := by
  unfold pureAt
  rw [two_cell hj, two_len]
  cases hx : isAt seed N j x <;> cases hy : isAt seed N j y
  · simp [zero_bad]
  · obtain ⟨h1, h2, h3⟩ := put_one y (-1) (.inr rfl)
    simp only [Bool.false_eq_true, if_false, if_true, h3, h2, hy]; rfl
  · obtain ⟨h1, h2, h3⟩ := put_one x 1 (.inl rfl)
    simp only [Bool.false_eq_true, if_false, if_true, h3, h2, hx]; rfl
  · have : (((Cl.zero.put x 1).put y (-1)).ok) = false := by
      have e : ((Cl.zero.put x 1).put y (-1)).n = 0 := by
        show wrap64 ((Cl.zero.put x 1).n + -1) = 0
        rw [(put_one x 1 (.inl rfl)).1]; exact w64_in (by omega)
      unfold Cl.ok
      rw [e]
      simp
    simp only [if_true, this]; rfl
theorem peel_two (hg : goodN (N : Int) = true) (hxy : ¬ x = y) {j : Nat} (hj : j < N) (h : (isAt seed N j x != isAt seed N j y) = true) : peelS seed (twoT seed N x y) = ⟨tzero N, [x], [y], true⟩ := by
  obtain ⟨h1, h2⟩ := next_at (seed := seed) (L := twoT seed N x y) (by rw [two_len]; exact hj) ((two_pure hj).trans h)
  unfold peelS
  rw [show (1025 : Nat) = 1024 + 1 from rfl, run_next (s := ⟨twoT seed N x y, [], [], true⟩) h1]
  dsimp only
  rw [two_len] at h1
  generalize nextI seed (twoT seed N x y) = i at *
  rw [two_pure h1] at h2
  have hsw : twoT seed N x y = tput seed (tput seed (tzero N) y (-1)) x 1 := tall_swap seed 1 (-1) [x] [y] (tzero N)
  cases hx : isAt seed N i x <;> cases hy : isAt seed N i y <;> rw [hx, hy] at h2
  · cases h2
  · obtain ⟨e1, e2, _⟩ := put_one y (-1) (.inr rfl)
    have htk : Pst.take seed ⟨twoT seed N x y, [], [], true⟩ i = ⟨tput seed (tzero N) x 1, [], [y], true⟩ := by
      unfold Pst.take
      dsimp only
      rw [two_cell h1, hx, hy]
      simp only [Bool.false_eq_true, if_false, if_true, e1, e2]
      rw [if_neg (by decide)]
      have hb : tput seed (twoT seed N x y) y 1 = tput seed (tzero N) x 1 := tput_back (n := -1) (m := 1) (by decide) y (tput_norm x (tzero_norm N))
      rw [hb]
      simp
    rw [htk, show (1024 : Nat) = 1023 + 1 from rfl, run_one hg 1 (.inl rfl) [] [y] true 1023 (by simp) (by simpa using hxy), if_pos rfl]
    rfl
  · obtain ⟨e1, e2, _⟩ := put_one x 1 (.inl rfl)
    have htk : Pst.take seed ⟨twoT seed N x y, [], [], true⟩ i = ⟨tput seed (tzero N) y (-1), [x], [], true⟩ := by
      unfold Pst.take
      dsimp only
      rw [two_cell h1, hx, hy]
      simp only [Bool.false_eq_true, if_false, if_true, e1, e2]
      have hb : tput seed (twoT seed N x y) x (-1) = tput seed (tzero N) y (-1) := by
        rw [hsw]
        exact tput_back (n := 1) (m := -1) (by decide) x (tput_norm y (tzero_norm N))
      rw [hb]
      simp
    rw [htk, show (1024 : Nat) = 1023 + 1 from rfl, run_one hg (-1) (.inr rfl) [x] [] true 1023 (by simpa using fun e => hxy e.symm) (by simp), if_neg (by decide)]
    rfl
  · cases h2
theorem ok_two (hg : goodN (N : Int) = true) (hxy : ¬ x = y) {j : Nat} (hj : j < N) (h : (isAt seed N j x != isAt seed N j y) = true) : resN seed (twoT seed N x y) = 0 ∧ resP seed (twoT seed N x y) = [x] ∧ resM seed (twoT seed N x y) = [y] := by
  have hp := peel_two hg hxy hj h
  have hok : peelOk seed (twoT seed N x y) = true := by
    unfold peelOk Pst.fine
    rw [hp, two_len, hg]
    simp [allZ_tzero]
  refine ⟨resN_ok hok, ?_, ?_⟩
  · unfold resP; rw [hok, hp]; exact setL_one x
  · unfold resM; rw [hok, hp]; exact setL_one y
end
/-- Sets that differ by one each way. -/
theorem two16 {seed : Nat} {n : Int} {X Y : List Sm} {x y : Sm} (hg : goodN n = true) (hY : srt Y) (hyl : Y.length ≤ 512) (h1 : minusL X Y = [x]) (h2 : minusL Y X = [y]) {j : Nat} (hj : j < n.toNat) (h : (isAt seed n.toNat j x != isAt seed n.toNat j y) = true) :
    tminus (ofL seed n X) (ofL seed n Y) = twoT seed n.toNat x y ∧ ownN seed (ofL seed n X) Y = 0 ∧ ownP seed (ofL seed n X) Y = [x] ∧ ownQ seed (ofL seed n X) Y = [y] := by
  obtain ⟨N, hN, _⟩ := goodN_rng hg
  have hNg : goodN ((n.toNat : Nat) : Int) = true := by rwa [show ((n.toNat : Nat) : Int) = n by omega]
  have hx := minusL_mem.1 (show x ∈ minusL X Y by rw [h1]; simp)
  have hy := minusL_mem.1 (show y ∈ minusL Y X by rw [h2]; simp)
  have hxy : ¬ x = y := fun e => hx.2 (e ▸ hy.1)
  have hT : tminus (ofL seed n X) (ofL seed n Y) = twoT seed n.toNat x y := by
    rw [ofL_apart hg X Y, h1, h2, ofL_good' hg, ofL_good' hg, setL_one, setL_one]
    exact tof_minus n.toNat [x] [y]
  have hD : ownD seed (ofL seed n X) Y = twoT seed n.toNat x y := by
    rw [← hT]
    unfold ownD
    rw [ofL_len hg, show ((n.toNat : Nat) : Int) = n by omega]
  obtain ⟨a1, a2, a3⟩ := ok_two hNg hxy hj h
  refine ⟨hT, own_of (ofL_good hg) (by rw [goodL_srt hY, decide_eq_true hyl]) (by rw [hD]; exact a1) (by rw [hD]; exact a2) (by rw [hD]; exact a3) ?_ ?_⟩
  · refine List.eq_nil_iff_forall_not_mem.2 fun z hz => ?_
    have hz := minusL_mem.1 hz
    simp only [List.mem_singleton] at hz
    exact hz.2 (hz.1 ▸ hy.1)
  · refine List.eq_nil_iff_forall_not_mem.2 fun z hz => ?_
    have hz := bothL_mem.1 hz
    simp only [List.mem_singleton] at hz
    exact hx.2 (hz.1 ▸ hz.2)
end Go.Proofs.YtmlbkcpmgcjblaaGreat

/- Which cells are pure, as a row. -/
namespace Go.Proofs.YtmlbkcpmgcjblaaGreat
open Go.RowKit

def pureB (seed : Nat) (L : List Cl) : List Bool := (List.range L.length).map (pureAt seed L)
theorem pureB_len (seed : Nat) (L : List Cl) : (pureB seed L).length = L.length := by simp [pureB]
theorem pureB_get {seed : Nat} {L : List Cl} {j : Nat} (hj : j < L.length) : (pureB seed L)[j]? = some (pureAt seed L j) := by simp [pureB, hj]
theorem pureB_getD {seed : Nat} {L : List Cl} {j : Nat} (hj : j < L.length) : (pureB seed L).getD j false = pureAt seed L j := by simp [List.getD, pureB_get hj]
theorem pureAt_other {seed : Nat} {L : List Cl} {i j : Nat} (x : Sm) (n : Int) (hj : j < L.length) (h : ¬ i = j) : pureAt seed (tputAt L i x n) j = pureAt seed L j := by
  have e : (tputAt L i x n).getD j default = L.getD j default := by
    unfold tputAt
    rw [getD_set_eq _ _ hj, if_neg h]
  unfold pureAt
  rw [e, tputAt_len]
theorem pureB_set {seed : Nat} {L : List Cl} {i : Nat} (x : Sm) (n : Int) (hi : i < L.length) : (pureB seed L).set i (pureAt seed (tputAt L i x n) i) = pureB seed (tputAt L i x n) := by
  apply List.ext_getElem?
  intro j
  rw [List.getElem?_set, pureB_len]
  by_cases hj : j < L.length
  · rw [pureB_get (L := tputAt L i x n) (by rw [tputAt_len]; exact hj)]
    by_cases hij : i = j
    · subst hij; rw [if_pos rfl, if_pos hj]
    · rw [if_neg hij, pureB_get hj, pureAt_other x n hj hij]
  · have h1 : (pureB seed (tputAt L i x n))[j]? = none := List.getElem?_eq_none (by rw [pureB_len, tputAt_len]; omega)
    rw [h1, if_neg (by omega), List.getElem?_eq_none (by rw [pureB_len]; omega)]
theorem firstP_congr {p q : Nat → Bool} : ∀ (k j : Nat), (∀ i, j ≤ i → i < j + k → p i = q i) → firstP p j k = firstP q j k
  | 0, _, _ => rfl
  | k + 1, j, h => by
    unfold firstP
    rw [h j (by omega) (by omega), firstP_congr k (j + 1) fun i h1 h2 => h i (by omega) (by omega)]
theorem idx_pure (seed : Nat) (L : List Cl) : idxOf (fun j => decide ((pureB seed L).getD j false = true)) (pureB seed L).length = if nextI seed L < L.length then (nextI seed L : Int) else -1 := by
  unfold idxOf nextI
  rw [pureB_len, firstP_congr (q := pureAt seed L) L.length 0 fun i _ hi => by rw [pureB_getD (by omega)]; simp]
/-- The first i looked at. -/
def mixB (seed : Nat) (L : List Cl) (i : Nat) : List Bool := (pureB seed L).take i ++ List.replicate (L.length - i) false
theorem mixB_len {seed : Nat} {L : List Cl} {i : Nat} (hi : i ≤ L.length) : (mixB seed L i).length = L.length := by
  simp only [mixB, List.length_append, List.length_take, pureB_len, List.length_replicate]
  omega
theorem mixB_zero (seed : Nat) (L : List Cl) : mixB seed L 0 = List.replicate L.length false := by simp [mixB]
theorem mixB_all (seed : Nat) (L : List Cl) : mixB seed L L.length = pureB seed L := by
  unfold mixB
  rw [Nat.sub_self, List.replicate_zero, List.append_nil, List.take_of_length_le (by rw [pureB_len]; exact Nat.le_refl _)]
theorem mixB_set {seed : Nat} {L : List Cl} {i : Nat} (hi : i < L.length) : (mixB seed L i).set i (pureAt seed L i) = mixB seed L (i + 1) := by
  unfold mixB
  have hl : ((pureB seed L).take i).length = i := by rw [List.length_take, pureB_len]; omega
  rw [List.set_append, if_neg (by omega), hl, Nat.sub_self, show L.length - i = (L.length - (i + 1)) + 1 by omega, List.replicate_succ, List.set_cons_zero]
  have : (pureB seed L).take (i + 1) = (pureB seed L).take i ++ [pureAt seed L i] := by
    rw [List.take_add_one, pureB_get hi]; rfl
  rw [this, List.append_assoc]
  rfl
end Go.Proofs.YtmlbkcpmgcjblaaGreat
