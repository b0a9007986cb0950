/- Joined: PeelH, TabO, PeelI, PeelJ, PeelL, StraA, StraB, TyH, StraC, StraD, PeelK, StraE, StraF, Row, Row2, LawStrataKnown. -/
import Derived.ProofKit
import Derived.OpenShut
import Derived.ShutString
import Derived.ChangeOld
import Derived.SizedLaws
import Derived.ChangeSlices
import Derived.Carry
import Derived.Test.YtgmeagkolahkoaaDoorRows
import Derived.Deep.DeepHandedRow
import Derived.Lib.LaidTab
import Derived.Test.YtgmeagkolahkoaaDoorZStrataKnownCard3
/- peel.All by types: the walk. -/
namespace Go.Proofs.YtgmeagkolahkoaaDoor
open Go.RowKit

theorem sl_nil (w : World) (e : TypeId) : SlP w e nilS 0 [] := (Seg.nil w e 1).sl
section
variable {P : Program} {ops : Array Oper} {Q : Exit → Act → World → Prop} {N : Nat} {Γ : Ctx} {a : Act} {w : World} {o : Oper} {rest : List Oper}
/-- An operation whose guard says no. -/
theorem tlOpN {j s d : Nat} {b c : Bool} (hF : Fr N Γ a w) (hg : o.guard = some (j, c)) (hj : slotOf ops j = some s) (hs : look Γ s = some (Ty.ex (.bool b))) (hbc : (b == c) = false) (hd : o.dst = some d) (hN : decide (d < N) = true) (hk : ∀ a', Fr N ((d, Ty.ex undef) :: Γ) a' w → wpList P ops Q rest a' w) : wpList P ops Q (o :: rest) a w := by
  refine wpList_step fun K hK => ?_
  obtain ⟨v, hv, e⟩ := hF.val s _ hs
  have e : v = .bool b := e
  subst e
  rw [if_neg (by cases b <;> cases c <;> simp at hbc <;> simp [Region.wanted, hg, yielded_of hj hv])]
  rw [hd]
  exact hK _ _ (hk _ (hF.put (of_decide_eq_true hN) (Below.refl _ _) rfl))
end
section
variable {w0 : World} {Γ : Ctx} {o : Oper}
theorem cBuildI {P : Program} {t : TypeId} {i : Nat} {x : Operand} {v z : Value} (ho : o.op = .build t #[(i, x)]) (hx : OpT Γ x (Ty.ex v)) (hr : ∀ w : World, (Instr.build t #[(i, v)]).run P w = .ok z w) : OpOk P w0 Γ o (Ty.ex z) :=
  .val fun a w _ hs => by
    obtain ⟨u, h1, h2⟩ := hs x _ (by simp [ho, Op.operands]) hx
    have h2 : u = v := h2
    subst h2
    refine ⟨_, rfl, ?_⟩
    unfold execOp
    simp [ho, h1, hr]
theorem cBuildRes {x y z : Operand} {P M : List Sm} {seed : Nat} {s : Value} {L : List Cl} {n1 n2 : Nat} (ho : o.op = .build ResT #[(0, x), (1, y), (2, z)]) (hx : OpT Γ x (Ty.seg w0 25 32 n1 (flat P))) (hy : OpT Γ y (Ty.seg w0 25 32 n2 (flat M))) (hz : OpT Γ z (Ty.ex (.agg #[.int .u64 (seed : Int), s]))) (hs : SlP w0 27 s L.length (flatC L)) (h1 : n1 = P.length) (h2 : n2 = M.length) : OpOk Tryd.prog w0 Γ o (Ty.res P M seed L) :=
  .val fun a w hb hs' => by
    subst h1 h2
    obtain ⟨p, k1, S1, k2, _⟩ := hs' x _ (by simp [ho, Op.operands]) hx
    obtain ⟨q, k3, S2, k4, _⟩ := hs' y _ (by simp [ho, Op.operands]) hy
    obtain ⟨e, k5, k6⟩ := hs' z _ (by simp [ho, Op.operands]) hz
    have k6 : e = .agg #[.int .u64 (seed : Int), s] := k6
    subst k6
    refine ⟨_, ⟨p, q, s, rfl, k2.sl, k4.sl, (Ty.cls 27 L).below hs hb⟩, ?_⟩
    unfold execOp
    simp only [ho]
    have e1 : ((#[(0, x), (1, y), (2, z)] : Array (Nat × Operand)).map fun (i, x) => (i, a.eval x)) = #[(0, p), (1, q), (2, .agg #[.int .u64 (seed : Int), s])] := by simp [k1, k3, k5]
    rw [e1, Sem.run_bind, buildR (seed : Int) (seg_isA k2) (seg_isA k4) (sl_isA hs) w]
    rfl
end
theorem run_stop {seed m : Nat} {s : Pst} (h : ¬ nextI seed s.L < s.L.length) : Pst.run seed m s = s := by
  cases m with
  | zero => rfl
  | succ m => unfold Pst.run; rw [if_neg h]
theorem mem_plus {x y : Sm} {p q S : List Sm} (h : y ∈ S ↔ y ∈ p ∨ y ∈ q) : y ∈ x :: S ↔ y ∈ p ++ [x] ∨ y ∈ q := by
  simp only [List.mem_cons, List.mem_append, List.not_mem_nil, or_false, h]
  by_cases a : y = x <;> by_cases b : y ∈ p <;> by_cases c : y ∈ q <;> simp [a, b, c]
theorem mem_minus {x y : Sm} {p q S : List Sm} (h : y ∈ S ↔ y ∈ p ∨ y ∈ q) : y ∈ x :: S ↔ y ∈ p ∨ y ∈ q ++ [x] := by
  simp only [List.mem_cons, List.mem_append, List.not_mem_nil, or_false, h]
  by_cases a : y = x <;> by_cases b : y ∈ p <;> by_cases c : y ∈ q <;> simp [a, b, c]
theorem res_one {n : Int} {p q s : Value} (hp : ∃ A l c, p = .slice A l c) (hq : ∃ A l c, q = .slice A l c) (hs : ∃ A l c, s = .slice A l c) : (Value.agg #[p, q, .int .u64 n, s]).cells.all (·.oneCell') = true := by
  obtain ⟨A, l, c, rfl⟩ := hs
  obtain ⟨A1, l1, c1, rfl⟩ := hp
  obtain ⟨A2, l2, c2, rfl⟩ := hq
  simp [Value.cells, Value.oneCell']
theorem hatT {seed bm : Nat} {sL sP s0 s1 : Value} : ∀ w v, (Ty.at_ PeelT (peelCells seed sL sP bm s0 s1)).p w v → (Ty.at_ PeelT [.int .u64 (seed : Int), sL]).p w v := fun w v h => at_pre (xs := [.int .u64 (seed : Int), sL]) (ys := [sP, .map (some bm), s0, s1]) w v h
set_option maxRecDepth 100000 in
set_option maxHeartbeats 8000000 in
theorem pall_ty (seed : Nat) (L : List Cl) (hsd : seed < 18446744073709551616) : Fn1 Tryd.prog 26 (Ty.tab 27 seed L) (Ty.tup [Ty.res (resP seed L) (resM seed L) (resS seed L) (resL seed L), Ty.ex (.int .i64 (resN seed L))]) := by
  refine ⟨fun args w => by kernel_rfl, fun w v ⟨s, hv, hs⟩ => ?_⟩
  subst hv
  have hG := tgood_ty seed L
  refine enter_ty 88 [Ty.ex (.agg #[.int .u64 (seed : Int), s])] Tryd.func26 rfl (by kernel_rfl) ⟨rfl, trivial⟩ fun a hF => ?_
  have hB := Below.refl w.heap.size w
  let TL := Ty.cls 27 L
  repeat with_reducible refine wp_seq ?_
  refine' reg_all hF ?_ mixed (by kernel_rfl) ?_
  rotate_left
  · repeat (first
        | exact Line.nil
        | (refine' Line.cons rfl (.new rfl rfl (run_alloc_i infoRes) rfl) ?_; rotate_left)
        | ((refine' Line.cons rfl (.run rfl rfl ?_) ?_)
           any_goals (first | exact cAssign rfl rfl | exact cBoxTab rfl rfl)
           rotate_left))
  intro a w1 hF hb hN
  have hBs := hB.size
  replace hB := hB.trans (hb.mono hB.size)
  dsimp only [ext, Option.getD] at hF
  repeat with_reducible first | refine wp_seq ?_ | refine nThen ?_
  obtain ⟨z, ⟨g2, rfl, hg2, hb2⟩, hF⟩ := hF.open (s := 2) rfl
  have hg2 : w.heap.size ≤ g2 := hg2
  have hs1 := TL.below hs hB
  have ht1 : (Ty.tab 27 seed L).p w1 (.agg #[.int .u64 (seed : Int), s]) := ⟨s, rfl, hs1⟩
  by_cases hok : goodN (L.length : Int) = true
  rotate_left
  · have hok : goodN (L.length : Int) = false := by simpa using hok
    have hpk : peelOk seed L = false := by unfold peelOk; rw [hok]; rfl
    rw [show resP seed L = [] by unfold resP; rw [hpk]; rfl, show resM seed L = [] by unfold resM; rw [hpk]; rfl, show resS seed L = 0 by unfold resS; rw [hok]; rfl, show resL seed L = [] by unfold resL; rw [hok]; rfl, show resN seed L = 1 by unfold resN; rw [hok]; rfl]
    rw [hok] at hG
    refine' reg_all hF ?_ mixed (by kernel_rfl) ?_
    rotate_left
    · repeat (first | exact Line.nil | ((refine' Line.cons rfl (.run rfl rfl ?_) ?_); (any_goals (first | exact cNot rfl rfl | exact cLoadT46 rfl (.t rfl) | exact cCallH1 rfl (.l rfl ht1) hG)); rotate_left))
    intro a w2 hF hb hN
    have hBs := hB.size
    replace hB := hB.trans (hb.mono hB.size)
    dsimp only [ext, Option.getD] at hF
    repeat with_reducible refine nThen ?_
    refine cond_t hF rfl ?_
    repeat with_reducible refine wp_seq ?_
    replace hb2 := hb2.below hb
    refine' region_ty 1 mixed (by kernel_rfl) hF ?_ ?_
    rotate_left
    · simp only [List.take_succ_cons, List.take_zero]
      repeat (first | exact Line.nil | ((refine' Line.cons rfl (.run rfl rfl ?_) ?_); (any_goals exact cBuildE rfl (fun w => buildR0 w)); rotate_left))
    intro a w3 hF hb hN
    have hBs := hB.size
    replace hB := hB.trans (hb.mono hB.size)
    simp only [List.take_succ_cons, List.take_zero, List.drop_succ_cons, List.drop_zero] at hF hN ⊢
    dsimp only [ext, Option.getD] at hF
    replace hb2 := hb2.below hb
    refine tlStoreV (Δ := [(2, Ty.ex (.pointer (some ⟨g2, 0, none⟩)))]) hF rfl rfl rfl rfl (hF.getEx (s := 12) rfl) hb2 rfl sizeRes (by simp [Value.cells, Value.oneCell']) (hF.keep [2]) rfl ?_
    intro w4 hF hb2 hkx
    replace hB := below_own hB hkx (by intro y hy; simp only [List.mem_singleton] at hy; omega)
    refine' tlOp hF rfl rfl rfl ?_ ?_
    rotate_left
    · exact cAssign rfl rfl
    intro a w5 hF hb
    have hBs := hB.size
    replace hB := hB.trans (hb.mono hB.size)
    try (refine wpList_nil ?_)
    repeat with_reducible first | refine nThen ?_ | refine wp_ret ?_ | refine rThen ?_
    refine retCell2 hF rfl rfl rfl (hb2.below hb) Tryd.underlying67 rfl sizeRes ?_
    exact ⟨_, rfl, ⟨[_, _], rfl, ⟨nilS, nilS, nilS, rfl, sl_nil _ _, sl_nil _ _, sl_nil _ _⟩, rfl, trivial⟩, hB⟩
  rw [hok] at hG
  refine' reg_all hF ?_ mixed (by kernel_rfl) ?_
  rotate_left
  · repeat (first | exact Line.nil | ((refine' Line.cons rfl (.run rfl rfl ?_) ?_); (any_goals (first | exact cNot rfl rfl | exact cLoadT46 rfl (.t rfl) | exact cCallH1 rfl (.l rfl ht1) hG)); rotate_left))
  intro a w2 hF hb hN
  have hBs := hB.size
  replace hB := hB.trans (hb.mono hB.size)
  dsimp only [ext, Option.getD] at hF
  repeat with_reducible refine nThen ?_
  replace hb2 := hb2.below hb
  refine cond_f hF rfl ?_
  repeat with_reducible first | refine wp_seq ?_ | refine nThen ?_ | refine wp_skip ?_
  obtain ⟨N, hN, hN1, hN2⟩ := goodN_rng hok
  have hLl : L.length ≤ 1024 := by omega
  have hs2 := TL.below hs hB
  obtain ⟨p1, hp1, hF⟩ := hF.open (s := 1) rfl
  clear hs hs1 ht1 hG
  have hw2 := hB.size
  have hB0 := hB
  obtain ⟨lo, elo⟩ : ∃ lo, lo = w2.heap.size := ⟨_, rfl⟩
  replace hB := Below.refl w2.heap.size w2
  refine' reg_all hF ?_ mixed (by kernel_rfl) ?_
  rotate_left
  · repeat (first | exact Line.nil | ((refine' Line.cons rfl (.run rfl rfl ?_) ?_); (any_goals (first | exact cAssign rfl rfl | exact cFldS46 rfl (.l rfl hp1) | exact cLoadU64 rfl (.t rfl) | exact cFldL46 rfl (.l rfl hp1) | exact cRowOf46 rfl (.t rfl) | exact cCallS1 rfl (.l rfl hs2) (cloneC_ty L (by omega)) | exact cBuildTabO (L := L) rfl rfl rfl (fun s hs w => buildT46 _ hs w) | exact cLenH rfl (.l rfl hs2) (Ty.sl_isSl _ _ _) Tryd.underlying36 | exact cMakeBools rfl rfl rfl (by omega) | exact cMakeMapS rfl | exact cBuildE rfl (fun w => buildSL2 w) | exact cBuildPeel (L := L) (seed := seed) rfl rfl rfl rfl rfl | exact cBoxPeel rfl rfl)); rotate_left))
  intro a w3 hF hb hN
  have hBs := hB.size
  replace hB := hB.trans (hb.mono hB.size)
  dsimp only [ext, Option.getD] at hF
  repeat with_reducible first | refine wp_seq ?_ | refine nThen ?_
  obtain ⟨z, ⟨gp, sL, sP, bm, SL, SP, rfl, hM, hO⟩, hF⟩ := hF.open (s := 4) rfl
  rw [← elo] at hO hB
  have hL := hB
  have hg2l : g2 < lo := by rw [elo]; exact hb2.lt
  clear hs2 hp1
  have hat := hM.at_
  have hsP := hM.pure.sl
  replace hB := Below.refl w3.heap.size w3
  refine' reg_all hF ?_ mixed (by kernel_rfl) ?_
  rotate_left
  · repeat (first | exact Line.nil | ((refine' Line.cons rfl (.run rfl rfl ?_) ?_); (any_goals (first | exact cMove rfl rfl | exact cNilOk rfl rfl | exact cPeelP rfl (.l rfl hat) | exact cLoad1 (u := sP) rfl (.t rfl) (pts_at _ _) Tryd.underlying105 rfl | exact cLenH rfl (.l rfl hsP) (Ty.sl_isSl _ _ _) Tryd.underlying105)); rotate_left))
  intro a w4 hF hb hN
  have hBs := hB.size
  replace hB := hB.trans (hb.mono hB.size)
  dsimp only [ext, Option.getD] at hF
  repeat with_reducible first | refine nThen ?_ | refine wp_block ?_
  replace hM := hM.below hb
  have hlo4 : lo ≤ w3.heap.size := by rw [elo]; exact hL.size
  replace hL := hL.trans (hb.mono hlo4)
  have hen : Enters Tryd.prog 50 := fun args w => by kernel_rfl
  have het : Enters Tryd.prog 52 := fun args w => by kernel_rfl
  refine loop_ty (fun m a wr => ∃ i : Nat, i + m = L.length ∧ Fr 88 [(2, Ty.ex (.pointer (some ⟨g2, 0, none⟩))), (4, Ty.ex (.pointer (some ⟨gp, 0, none⟩))), (31, Ty.ex (.int .i64 (L.length : Int))), (32, Ty.ex (.int .i64 (i : Int)))] a wr ∧ Below lo w2 wr ∧ PeelMem wr gp seed sL sP bm nilS nilS L (mixB seed L i) [] [] [] SL SP [] [] 0) L.length ?_ ?_
  · exact ⟨0, by omega, hF.keep [2, 4, 31, 32], hL, by rw [mixB_zero]; exact hM⟩
  clear hF hB hL hM hat hsP hb hBs
  rintro m a wr ⟨i, hi, hF, hL, hM⟩
  have hB := Below.refl wr.heap.size wr
  have hlor : lo ≤ wr.heap.size := by rw [elo]; exact hL.size
  have hL0 := hL
  repeat with_reducible refine wp_seq ?_
  refine' reg_all hF ?_ mixed (by kernel_rfl) ?_
  rotate_left
  · repeat (first | exact Line.nil | ((refine' Line.cons rfl (.run rfl rfl ?_) ?_); (any_goals exact cLss rfl rfl rfl); rotate_left))
  intro a w10 hF hb hN
  have hBs := hB.size
  replace hB := hB.trans (hb.mono hB.size)
  dsimp only [ext, Option.getD] at hF
  repeat with_reducible first | refine wp_seq ?_ | refine nThen ?_
  replace hM := hM.below hb
  replace hL := hL.trans (hb.mono hlor)
  refine cond_ty hF rfl (fun hlt => ?_) (fun hge => ?_)
  · have hlt : i < L.length := by have := of_decide_eq_true hlt; omega
    repeat with_reducible first | refine wp_seq ?_ | refine nThen ?_ | refine wp_skip ?_ | refine wp_block ?_
    refine' reg_all hF ?_ mixed (by kernel_rfl) ?_
    rotate_left
    · repeat (first | exact Line.nil | ((refine' Line.cons rfl (.run rfl rfl ?_) ?_); (any_goals (first | exact cMove rfl rfl | exact cAssign rfl rfl)); rotate_left))
    intro a w11 hF hb hN
    have hBs := hB.size
    replace hB := hB.trans (hb.mono hB.size)
    dsimp only [ext, Option.getD] at hF
    repeat with_reducible refine nThen ?_
    replace hM := hM.below hb
    have hlo11 : lo ≤ w11.heap.size := Nat.le_trans hlor hB.size
    refine' region_ty 2 mixed (by kernel_rfl) hF ?_ ?_
    rotate_left
    · simp only [List.take_succ_cons, List.take_zero]
      repeat (first | exact Line.nil | ((refine' Line.cons rfl (.run rfl rfl ?_) ?_); (any_goals exact cMove rfl rfl); rotate_left))
    intro a w12 hF hb hN
    have hBs := hB.size
    replace hB := hB.trans (hb.mono hB.size)
    simp only [List.take_succ_cons, List.take_zero, List.drop_succ_cons, List.drop_zero] at hF hN ⊢
    dsimp only [ext, Option.getD] at hF
    replace hM := hM.below hb
    replace hL : Below lo w2 w12 := hL0.trans (hB.mono hlor)
    have hlk := look_any hM (mixB_len (by omega)) hsd (i := i) hlt
    rw [mixB_set hlt] at hlk
    refine tlCall rfl rfl rfl (args := #[.pointer (some ⟨gp, 0, none⟩), ivn i]) ?_ hen (R := fun u w' => PeelMem w' gp seed sL sP bm nilS nilS L (mixB seed L (i + 1)) [] [] [] SL SP [] [] 0 ∧ Keeps SP w12 w') ?_ ?_
    · simp only [List.map_toArray, List.map_cons, List.map_nil, hF.getEx (s := 35) rfl, hF.getEx (s := 36) rfl]; rfl
    · exact hlk.mono fun e w' ⟨h1, h2, h3⟩ => ⟨_, h1, h2, h3⟩
    rintro z w13 ⟨hM2, hk13⟩
    have hF := ((hF.keep [2, 4, 31, 32]).keepSeg hk13 hM.pure rfl).put (d := 37) (by decide) (Below.refl _ _) (V := Ty.ex z) rfl
    have hlo12 : lo ≤ w12.heap.size := Nat.le_trans hlor hB.size
    replace hL := below_lo hL (by rw [elo]; exact Nat.le_refl _) hk13 hO.pure
    replace hB := Below.refl w13.heap.size w13
    have hlo13 : lo ≤ w13.heap.size := by rw [elo]; exact hL.size
    refine wpList_nil ?_
    repeat with_reducible first | refine nThen ?_ | refine nBlk ?_
    refine' reg_all hF ?_ mixed (by kernel_rfl) ?_
    rotate_left
    · repeat (first | exact Line.nil | ((refine' Line.cons rfl (.run rfl rfl ?_) ?_); (any_goals (first | exact cMove rfl rfl | exact cAdd (r := ((i + 1 : Nat) : Int)) rfl rfl rfl (by omega))); rotate_left))
    intro a w14 hF hb hN
    have hBs := hB.size
    replace hB := hB.trans (hb.mono hB.size)
    dsimp only [ext, Option.getD] at hF
    repeat with_reducible refine nThen ?_
    exact ⟨m - 1, by omega, i + 1, by omega, hF.keep [2, 4, 31, 32], hL.trans (hb.mono hlo13), hM2.below hb⟩
  have hge : ¬ i < L.length := by have := of_decide_eq_false hge; omega
  obtain rfl : i = L.length := by omega
  rw [mixB_all] at hM
  repeat with_reducible first | refine wp_seq ?_ | refine nThen ?_ | refine wp_exit ?_ | refine xThen ?_ | refine xHere ?_
  have hlo10 : lo ≤ w10.heap.size := Nat.le_trans hlor hB.size
  replace hB := Below.refl w10.heap.size w10
  refine' reg_all hF ?_ mixed (by kernel_rfl) ?_
  rotate_left
  · repeat (first | exact Line.nil | ((refine' Line.cons rfl (.run rfl rfl ?_) ?_); (any_goals exact cAssign rfl rfl); rotate_left))
  intro a w20 hF hb hN
  have hBs := hB.size
  replace hB := hB.trans (hb.mono hB.size)
  dsimp only [ext, Option.getD] at hF
  repeat with_reducible first | refine wp_seq ?_ | refine nThen ?_
  refine' reg_all hF ?_ mixed (by kernel_rfl) ?_
  rotate_left
  · repeat (first | exact Line.nil | ((refine' Line.cons rfl (.run rfl rfl ?_) ?_); (any_goals exact cAssign rfl rfl); rotate_left))
  intro a w21 hF hb hN
  have hBs := hB.size
  replace hB := hB.trans (hb.mono hB.size)
  dsimp only [ext, Option.getD] at hF
  repeat with_reducible first | refine nThen ?_ | refine wp_block ?_
  replace hM := hM.below hB
  replace hL := hL.trans (hB.mono hlo10)
  refine wp_mono (Q := fun e a w' => e = .exit 2 ∧ ∃ S s0 s1 S0 S1 n, Fr 88 [(2, Ty.ex (.pointer (some ⟨g2, 0, none⟩))), (4, Ty.ex (.pointer (some ⟨gp, 0, none⟩))), (6, Ty.ex (.bool (peelS seed L).once))] a w' ∧ Below lo w2 w' ∧ PeelMem w' gp seed sL sP bm s0 s1 (peelS seed L).L (pureB seed (peelS seed L).L) S (peelS seed L).minus (peelS seed L).plus SL SP S0 S1 n) ?_ ?_
  · refine loop_ty (fun m a wr => ∃ (n : Nat) (st : Pst) (S : List Sm) (s0 s1 : Value) (S0 S1 : List Nat), n + m = 1025 ∧ Fr 88 [(2, Ty.ex (.pointer (some ⟨g2, 0, none⟩))), (4, Ty.ex (.pointer (some ⟨gp, 0, none⟩))), (6, Ty.ex (.bool st.once)), (7, Ty.ex (.int .i64 (n : Int)))] a wr ∧ Below lo w2 wr ∧ PeelMem wr gp seed sL sP bm s0 s1 st.L (pureB seed st.L) S st.minus st.plus SL SP S0 S1 n ∧ PeelOwn lo gp bm SL SP S0 S1 ∧ (∀ y, y ∈ S ↔ y ∈ st.plus ∨ y ∈ st.minus) ∧ st.L.length = L.length ∧ Pst.run seed m st = peelS seed L ∧ st.plus.length + st.minus.length = n) 1025 ?_ ?_
    · exact ⟨0, ⟨L, [], [], true⟩, [], nilS, nilS, [], [], rfl, hF.keep [2, 4, 6, 7], hL, hM, hO, by simp, rfl, rfl, rfl⟩
    clear hF hB hL hM hO hb hBs
    rintro m a wr ⟨n, st, S, s0, s1, S0, S1, hn, hF, hL, hM, hO, hS, hlen, hrun, hcnt⟩
    have hB := Below.refl wr.heap.size wr
    have hlor : lo ≤ wr.heap.size := by rw [elo]; exact hL.size
    repeat with_reducible refine wp_seq ?_
    refine' reg_all hF ?_ mixed (by kernel_rfl) ?_
    rotate_left
    · repeat (first | exact Line.nil | ((refine' Line.cons rfl (.run rfl rfl ?_) ?_); (any_goals (first | exact cMove rfl rfl | exact cLeq rfl rfl rfl)); rotate_left))
    intro a w30 hF hb hN
    have hBs := hB.size
    replace hB := hB.trans (hb.mono hB.size)
    dsimp only [ext, Option.getD] at hF
    repeat with_reducible refine nThen ?_
    replace hM := hM.below hb
    replace hL := hL.trans (hb.mono hlor)
    have hlo30 : lo ≤ w30.heap.size := Nat.le_trans hlor hB.size
    refine cond_ty hF rfl (fun hle => ?_) (fun hgt => ?_)
    · have hle : n ≤ 1024 := by have := of_decide_eq_true hle; omega
      have hI := idxBool_ty (pureB seed st.L) true (by rw [pureB_len]; omega)
      rw [idx_pure] at hI
      have hat := hM.at_
      have hsP : (Ty.sl 4 (pureB seed st.L).length ((pureB seed st.L).map bvl)).p w30 sP := by rw [pureB_len]; exact hM.pure.sl
      replace hB := Below.refl w30.heap.size w30
      by_cases hlt : nextI seed st.L < st.L.length
      · rw [if_pos hlt] at hI
        have hpu := (next_at (seed := seed) hlt (by
          have := firstP_at (pureAt seed st.L) st.L.length 0 (by unfold nextI at hlt; omega)
          rw [Nat.zero_add] at this
          exact this)).2
        have hrn := run_next (m := m - 1) (s := st) hlt
        rw [show m - 1 + 1 = m by omega, hrun] at hrn
        have htk : st.take seed (nextI seed st.L) = _ := rfl
        rw [htk] at hrn
        unfold Pst.take at hrn
        dsimp only at hrn
        generalize nextI seed st.L = i at *
        repeat with_reducible first | refine wp_seq ?_ | refine nThen ?_ | refine wp_skip ?_ | refine wp_block ?_
        refine' reg_all hF ?_ mixed (by kernel_rfl) ?_
        rotate_left
        · repeat (first | exact Line.nil | ((refine' Line.cons rfl (.run rfl rfl ?_) ?_); (any_goals (first | exact cMove rfl rfl | exact cAssign rfl rfl | exact cNilOk rfl rfl | exact cPeelP rfl (.l rfl hat) | exact cLoad1 (u := sP) rfl (.t rfl) (pts_at _ _) Tryd.underlying105 rfl | exact cCallH2 rfl (.l rfl hsP) (.t rfl) hI)); rotate_left))
        intro a w31 hF hb hN
        have hBs := hB.size
        replace hB := hB.trans (hb.mono hB.size)
        dsimp only [ext, Option.getD] at hF
        repeat with_reducible first | refine wp_seq ?_ | refine nThen ?_
        refine' reg_all hF ?_ mixed (by kernel_rfl) ?_
        rotate_left
        · repeat (first | exact Line.nil | ((refine' Line.cons rfl (.run rfl rfl ?_) ?_); (any_goals (first | exact cMove rfl rfl | exact cLss rfl rfl rfl)); rotate_left))
        intro a w32 hF hb hN
        have hBs := hB.size
        replace hB := hB.trans (hb.mono hB.size)
        dsimp only [ext, Option.getD] at hF
        repeat with_reducible refine nThen ?_
        refine cond_ty hF rfl (fun hneg => ?_) (fun _ => ?_)
        · exact absurd (of_decide_eq_true hneg) (by omega)
        repeat with_reducible first | refine nThen ?_ | refine wp_skip ?_
        refine wp_region_lit ?_
        refine' tlOp hF rfl rfl rfl ?_ ?_
        rotate_left
        · exact cMove rfl rfl
        intro a w33 hF hb
        have hBs := hB.size
        replace hB := hB.trans (hb.mono hB.size)
        try (refine wpList_nil ?_)
        refine' tlOp hF rfl rfl rfl ?_ ?_
        rotate_left
        · exact cMove rfl rfl
        intro a w34 hF hb
        have hBs := hB.size
        replace hB := hB.trans (hb.mono hB.size)
        try (refine wpList_nil ?_)
        replace hM := hM.below hB
        replace hL := hL.trans (hB.mono hlo30)
        have hlo34 : lo ≤ w34.heap.size := Nat.le_trans hlo30 hB.size
        obtain ⟨x, hx⟩ : ∃ x, (st.L.getD i default).key = x := ⟨_, rfl⟩
        rw [hx] at hrn
        have hSx : decide (x ∈ S) = (decide (x ∈ st.plus) || decide (x ∈ st.minus)) := by rw [← Bool.decide_or]; exact decide_eq_decide.2 (hS x)
        rw [← hSx] at hrn
        by_cases hc : (st.L.getD i default).n = 1
        · rw [if_pos hc] at hrn
          have hlk := takeP_any hM hO hlo34 hsd (by omega) (by omega) hlt hpu hc hx
          refine tlCall rfl rfl rfl (args := #[.pointer (some ⟨gp, 0, none⟩), ivn i]) ?_ het hlk ?_
          · simp only [List.map_toArray, List.map_cons, List.map_nil, hF.getEx (s := 50) rfl, hF.getEx (s := 51) rfl]; rfl
          rintro z w35 ⟨rfl, hB35, v', S', hM2, hO2⟩
          have hF := ((hF.keep [2, 4, 6, 7]).exs (w' := w35) (exs_cons (exs_cons (exs_cons (exs_cons exs_nil))))).put (d := 52) (by decide) (Below.refl _ _) (V := Ty.ex (.bool (!decide (x ∈ S)))) rfl
          replace hL := hL.trans hB35
          replace hB := Below.refl w35.heap.size w35
          have hlo35 : lo ≤ w35.heap.size := by rw [elo]; exact hL.size
          cases hxs : decide (x ∈ S) with
          | true =>
            rw [hxs, Bool.not_true, Bool.and_false] at hrn
            rw [hxs] at hF
            refine' tlOp hF rfl rfl rfl ?_ ?_
            rotate_left
            · exact cMove rfl rfl
            intro a w36 hF hb
            have hBs := hB.size
            replace hB := hB.trans (hb.mono hB.size)
            try (refine wpList_nil ?_)
            refine tlOpN hF rfl rfl rfl rfl rfl rfl fun a hF => ?_
            refine' tlOp hF rfl rfl rfl ?_ ?_
            rotate_left
            · exact cPickF rfl rfl rfl
            intro a w37 hF hb
            have hBs := hB.size
            replace hB := hB.trans (hb.mono hB.size)
            try (refine wpList_nil ?_)
            refine' tlOp hF rfl rfl rfl ?_ ?_
            rotate_left
            · exact cAssign rfl rfl
            intro a w38 hF hb
            have hBs := hB.size
            replace hB := hB.trans (hb.mono hB.size)
            try (refine wpList_nil ?_)
            repeat with_reducible first | refine nThen ?_ | refine nBlk ?_
            refine' reg_all hF ?_ mixed (by kernel_rfl) ?_
            rotate_left
            · repeat (first | exact Line.nil | ((refine' Line.cons rfl (.run rfl rfl ?_) ?_); (any_goals (first | exact cMove rfl rfl | exact cAssign rfl rfl | exact cAdd (r := ((n + 1 : Nat) : Int)) rfl rfl rfl (by omega))); rotate_left))
            intro a w39 hF hb hN
            have hBs := hB.size
            replace hB := hB.trans (hb.mono hB.size)
            dsimp only [ext, Option.getD] at hF
            repeat with_reducible refine nThen ?_
            exact ⟨m - 1, by omega, n + 1, ⟨tput seed st.L x (-1), st.plus ++ [x], st.minus, false⟩, _, _, _, _, _, by omega, hF.keep [2, 4, 6, 7], hL.trans (hB.mono hlo35), hM2.below hB, hO2, fun y => mem_plus (hS y), by rw [tput_len]; exact hlen, hrn.symm, by simp; omega⟩
          | false =>
            rw [hxs, Bool.not_false, Bool.and_true] at hrn
            rw [hxs] at hF
            refine' tlOp hF rfl rfl rfl ?_ ?_
            rotate_left
            · exact cMove rfl rfl
            intro a w36 hF hb
            have hBs := hB.size
            replace hB := hB.trans (hb.mono hB.size)
            try (refine wpList_nil ?_)
            refine tlOpG hF rfl rfl rfl rfl rfl (cMove rfl rfl) fun a w37 hF hb => ?_
            replace hB := hB.trans (hb.mono hB.size)
            refine' tlOp hF rfl rfl rfl ?_ ?_
            rotate_left
            · exact cPickT rfl rfl rfl
            intro a w38 hF hb
            have hBs := hB.size
            replace hB := hB.trans (hb.mono hB.size)
            try (refine wpList_nil ?_)
            refine' tlOp hF rfl rfl rfl ?_ ?_
            rotate_left
            · exact cAssign rfl rfl
            intro a w39 hF hb
            have hBs := hB.size
            replace hB := hB.trans (hb.mono hB.size)
            try (refine wpList_nil ?_)
            repeat with_reducible first | refine nThen ?_ | refine nBlk ?_
            refine' reg_all hF ?_ mixed (by kernel_rfl) ?_
            rotate_left
            · repeat (first | exact Line.nil | ((refine' Line.cons rfl (.run rfl rfl ?_) ?_); (any_goals (first | exact cMove rfl rfl | exact cAssign rfl rfl | exact cAdd (r := ((n + 1 : Nat) : Int)) rfl rfl rfl (by omega))); rotate_left))
            intro a w40 hF hb hN
            have hBs := hB.size
            replace hB := hB.trans (hb.mono hB.size)
            dsimp only [ext, Option.getD] at hF
            repeat with_reducible refine nThen ?_
            exact ⟨m - 1, by omega, n + 1, ⟨tput seed st.L x (-1), st.plus ++ [x], st.minus, st.once⟩, _, _, _, _, _, by omega, hF.keep [2, 4, 6, 7], hL.trans (hB.mono hlo35), hM2.below hB, hO2, fun y => mem_plus (hS y), by rw [tput_len]; exact hlen, hrn.symm, by simp; omega⟩
        · rw [if_neg hc] at hrn
          have hlk := takeM_any hM hO hlo34 hsd (by omega) (by omega) hlt hpu hc hx
          refine tlCall rfl rfl rfl (args := #[.pointer (some ⟨gp, 0, none⟩), ivn i]) ?_ het hlk ?_
          · simp only [List.map_toArray, List.map_cons, List.map_nil, hF.getEx (s := 50) rfl, hF.getEx (s := 51) rfl]; rfl
          rintro z w35 ⟨rfl, hB35, v', S', hM2, hO2⟩
          have hF := ((hF.keep [2, 4, 6, 7]).exs (w' := w35) (exs_cons (exs_cons (exs_cons (exs_cons exs_nil))))).put (d := 52) (by decide) (Below.refl _ _) (V := Ty.ex (.bool (!decide (x ∈ S)))) rfl
          replace hL := hL.trans hB35
          replace hB := Below.refl w35.heap.size w35
          have hlo35 : lo ≤ w35.heap.size := by rw [elo]; exact hL.size
          cases hxs : decide (x ∈ S) with
          | true =>
            rw [hxs, Bool.not_true, Bool.and_false] at hrn
            rw [hxs] at hF
            refine' tlOp hF rfl rfl rfl ?_ ?_
            rotate_left
            · exact cMove rfl rfl
            intro a w36 hF hb
            have hBs := hB.size
            replace hB := hB.trans (hb.mono hB.size)
            try (refine wpList_nil ?_)
            refine tlOpN hF rfl rfl rfl rfl rfl rfl fun a hF => ?_
            refine' tlOp hF rfl rfl rfl ?_ ?_
            rotate_left
            · exact cPickF rfl rfl rfl
            intro a w37 hF hb
            have hBs := hB.size
            replace hB := hB.trans (hb.mono hB.size)
            try (refine wpList_nil ?_)
            refine' tlOp hF rfl rfl rfl ?_ ?_
            rotate_left
            · exact cAssign rfl rfl
            intro a w38 hF hb
            have hBs := hB.size
            replace hB := hB.trans (hb.mono hB.size)
            try (refine wpList_nil ?_)
            repeat with_reducible first | refine nThen ?_ | refine nBlk ?_
            refine' reg_all hF ?_ mixed (by kernel_rfl) ?_
            rotate_left
            · repeat (first | exact Line.nil | ((refine' Line.cons rfl (.run rfl rfl ?_) ?_); (any_goals (first | exact cMove rfl rfl | exact cAssign rfl rfl | exact cAdd (r := ((n + 1 : Nat) : Int)) rfl rfl rfl (by omega))); rotate_left))
            intro a w39 hF hb hN
            have hBs := hB.size
            replace hB := hB.trans (hb.mono hB.size)
            dsimp only [ext, Option.getD] at hF
            repeat with_reducible refine nThen ?_
            exact ⟨m - 1, by omega, n + 1, ⟨tput seed st.L x 1, st.plus, st.minus ++ [x], false⟩, _, _, _, _, _, by omega, hF.keep [2, 4, 6, 7], hL.trans (hB.mono hlo35), hM2.below hB, hO2, fun y => mem_minus (hS y), by rw [tput_len]; exact hlen, hrn.symm, by simp; omega⟩
          | false =>
            rw [hxs, Bool.not_false, Bool.and_true] at hrn
            rw [hxs] at hF
            refine' tlOp hF rfl rfl rfl ?_ ?_
            rotate_left
            · exact cMove rfl rfl
            intro a w36 hF hb
            have hBs := hB.size
            replace hB := hB.trans (hb.mono hB.size)
            try (refine wpList_nil ?_)
            refine tlOpG hF rfl rfl rfl rfl rfl (cMove rfl rfl) fun a w37 hF hb => ?_
            replace hB := hB.trans (hb.mono hB.size)
            refine' tlOp hF rfl rfl rfl ?_ ?_
            rotate_left
            · exact cPickT rfl rfl rfl
            intro a w38 hF hb
            have hBs := hB.size
            replace hB := hB.trans (hb.mono hB.size)
            try (refine wpList_nil ?_)
            refine' tlOp hF rfl rfl rfl ?_ ?_
            rotate_left
            · exact cAssign rfl rfl
            intro a w39 hF hb
            have hBs := hB.size
            replace hB := hB.trans (hb.mono hB.size)
            try (refine wpList_nil ?_)
            repeat with_reducible first | refine nThen ?_ | refine nBlk ?_
            refine' reg_all hF ?_ mixed (by kernel_rfl) ?_
            rotate_left
            · repeat (first | exact Line.nil | ((refine' Line.cons rfl (.run rfl rfl ?_) ?_); (any_goals (first | exact cMove rfl rfl | exact cAssign rfl rfl | exact cAdd (r := ((n + 1 : Nat) : Int)) rfl rfl rfl (by omega))); rotate_left))
            intro a w40 hF hb hN
            have hBs := hB.size
            replace hB := hB.trans (hb.mono hB.size)
            dsimp only [ext, Option.getD] at hF
            repeat with_reducible refine nThen ?_
            exact ⟨m - 1, by omega, n + 1, ⟨tput seed st.L x 1, st.plus, st.minus ++ [x], st.once⟩, _, _, _, _, _, by omega, hF.keep [2, 4, 6, 7], hL.trans (hB.mono hlo35), hM2.below hB, hO2, fun y => mem_minus (hS y), by rw [tput_len]; exact hlen, hrn.symm, by simp; omega⟩
      · rw [if_neg hlt] at hI
        rw [run_stop hlt] at hrun
        repeat with_reducible first | refine wp_seq ?_ | refine nThen ?_ | refine wp_skip ?_ | refine wp_block ?_
        refine' reg_all hF ?_ mixed (by kernel_rfl) ?_
        rotate_left
        · repeat (first | exact Line.nil | ((refine' Line.cons rfl (.run rfl rfl ?_) ?_); (any_goals (first | exact cMove rfl rfl | exact cAssign rfl rfl | exact cNilOk rfl rfl | exact cPeelP rfl (.l rfl hat) | exact cLoad1 (u := sP) rfl (.t rfl) (pts_at _ _) Tryd.underlying105 rfl | exact cCallH2 rfl (.l rfl hsP) (.t rfl) hI)); rotate_left))
        intro a w31 hF hb hN
        have hBs := hB.size
        replace hB := hB.trans (hb.mono hB.size)
        dsimp only [ext, Option.getD] at hF
        repeat with_reducible first | refine wp_seq ?_ | refine nThen ?_
        refine' reg_all hF ?_ mixed (by kernel_rfl) ?_
        rotate_left
        · repeat (first | exact Line.nil | ((refine' Line.cons rfl (.run rfl rfl ?_) ?_); (any_goals (first | exact cMove rfl rfl | exact cLss rfl rfl rfl)); rotate_left))
        intro a w32 hF hb hN
        have hBs := hB.size
        replace hB := hB.trans (hb.mono hB.size)
        dsimp only [ext, Option.getD] at hF
        repeat with_reducible refine nThen ?_
        refine cond_ty hF rfl (fun _ => ?_) (fun hneg => ?_)
        · repeat with_reducible first | refine wp_exit ?_ | refine xThen ?_ | refine xFar (by decide) ?_
          subst hrun
          exact ⟨rfl, S, s0, s1, S0, S1, n, hF.keep [2, 4, 6], hL.trans (hB.mono hlo30), hM.below hB⟩
        · exact absurd (of_decide_eq_false hneg) (by omega)
    · have hgt : ¬ n ≤ 1024 := by have := of_decide_eq_false hgt; omega
      obtain rfl : m = 0 := by omega
      have hrun : st = peelS seed L := hrun
      repeat with_reducible first | refine wp_exit ?_ | refine xThen ?_
      subst hrun
      exact ⟨rfl, S, s0, s1, S0, S1, n, hF.keep [2, 4, 6], hL, hM⟩
  clear hF hB hL hM hO hb hBs
  rintro e a wr ⟨rfl, S, s0, s1, S0, S1, n, hF, hL, hM⟩
  have hlor : lo ≤ wr.heap.size := by rw [elo]; exact hL.size
  have hB := Below.refl wr.heap.size wr
  have hat := hM.at_
  have eok : peelOk seed L = ((peelS seed L).once && allZ (peelS seed L).L) := by unfold peelOk Pst.fine; rw [hok, Bool.true_and]
  have eS : resS seed L = seed := by unfold resS; rw [hok]; rfl
  have eL : resL seed L = (peelS seed L).L := by unfold resL; rw [hok]; rfl
  have hlen : (peelS seed L).L.length = L.length := Pst.run_len _ _ _
  have hf1 := peel_few1 (seed := seed) (L := L)
  have hgd : goodN ((peelS seed L).L.length : Int) = true := by rw [hlen]; exact hok
  have eP : resP seed L = if peelOk seed L then setL (peelS seed L).plus else [] := rfl
  have eM : resM seed L = if peelOk seed L then setL (peelS seed L).minus else [] := rfl
  have eN : resN seed L = if peelOk seed L then 0 else 10 := by unfold resN; rw [hok]; rfl
  rw [eS, eL, eP, eM, eN, eok]
  generalize peelS seed L = st at *
  clear eok eS eL eP eM eN
  have hTZ := tzero_ty seed st.L
  rw [hgd, Bool.true_and] at hTZ
  have htb : (Ty.tab 27 seed st.L).p wr (.agg #[.int .u64 (seed : Int), sL]) := ⟨sL, rfl, hM.tab.sl⟩
  repeat with_reducible first | refine wp_seq ?_ | refine nThen ?_ | refine xHere ?_
  refine wp_mono (Q := fun e a w' => e = .normal ∧ Fr 88 [(2, Ty.ex (.pointer (some ⟨g2, 0, none⟩))), (4, Ty.ex (.pointer (some ⟨gp, 0, none⟩))), (65, Ty.ex (.bool (!(st.once && allZ st.L))))] a w' ∧ Below wr.heap.size wr w') ?_ ?_
  · cases ho : st.once with
    | true =>
      rw [ho] at hF
      rw [Bool.true_and]
      refine' reg_all hF ?_ mixed (by kernel_rfl) ?_
      rotate_left
      · repeat (first | exact Line.nil | ((first | refine' Line.cons rfl (.run rfl rfl ?_) ?_ | refine' Line.cons rfl (.yes rfl rfl rfl rfl ?_) ?_); (any_goals (first | exact cMove rfl rfl | exact cNot rfl rfl | exact cNilOk rfl rfl | exact cPeelT rfl (.l rfl hat) | exact cLoadT46 rfl (Has.c (.t rfl) hatT) | exact cCallH1 rfl (.l rfl htb) hTZ | exact cPickF rfl rfl rfl)); rotate_left))
      intro a w50 hF hb hN
      have hBs := hB.size
      replace hB := hB.trans (hb.mono hB.size)
      dsimp only [ext, Option.getD] at hF
      exact ⟨rfl, hF.keep [2, 4, 65], hB⟩
    | false =>
      rw [ho] at hF
      rw [Bool.false_and]
      refine' reg_all hF ?_ mixed (by kernel_rfl) ?_
      rotate_left
      · repeat (first | exact Line.nil | (refine' Line.cons rfl (.no rfl rfl rfl rfl rfl rfl) ?_; rotate_left) | ((refine' Line.cons rfl (.run rfl rfl ?_) ?_); (any_goals (first | exact cMove rfl rfl | exact cNot rfl rfl | exact cPickT rfl rfl rfl)); rotate_left))
      intro a w50 hF hb hN
      have hBs := hB.size
      replace hB := hB.trans (hb.mono hB.size)
      dsimp only [ext, Option.getD] at hF
      exact ⟨rfl, hF.keep [2, 4, 65], hB⟩
  clear hF hB
  rintro e a w51 ⟨rfl, hF, hB⟩
  replace hL := hL.trans (hB.mono hlor)
  replace hM := hM.below hB
  have hat := hM.at_
  have hlo51 : lo ≤ w51.heap.size := Nat.le_trans hlor hB.size
  have hb2' : Blk w51 g2 ResT #[nilS, nilS, .int .u64 0, nilS] := (hL.block g2 hg2l).trans hb2
  clear htb
  replace hB := Below.refl w51.heap.size w51
  have hsLA := seg_isA hM.tab
  have hfin : ∀ {w'}, Below lo w2 w' → Below w.heap.size w w' := fun hl => hB0.trans (hl.mono (by rw [elo]; exact hw2))
  have hg2S : ∀ {w'}, Keeps [g2] w51 w' → SlP w' 27 sL st.L.length (flatC st.L) := fun hk => (hM.tab.keeps hk (seg_far hM.tab hb2' (by decide))).sl
  repeat with_reducible refine nThen ?_
  cases hz : (st.once && allZ st.L) with
  | false =>
    rw [hz] at hF
    simp only [Bool.false_eq_true, if_false]
    refine cond_t hF rfl ?_
    repeat with_reducible refine wp_seq ?_
    refine' region_ty 5 mixed (by kernel_rfl) hF ?_ ?_
    rotate_left
    · simp only [List.take_succ_cons, List.take_zero]
      repeat (first | exact Line.nil | ((refine' Line.cons rfl (.run rfl rfl ?_) ?_); (any_goals (first | exact cMove rfl rfl | exact cNilOk rfl rfl | exact cPeelT rfl (.l rfl hat) | exact cLoadT46 rfl (Has.c (.t rfl) hatT) | exact cBuildI rfl rfl (fun w => buildRL _ hsLA w))); rotate_left))
    intro a w52 hF hb hN
    have hBs := hB.size
    replace hB := hB.trans (hb.mono hB.size)
    simp only [List.take_succ_cons, List.take_zero, List.drop_succ_cons, List.drop_zero] at hF hN ⊢
    dsimp only [ext, Option.getD] at hF
    replace hb2' := hb2'.below hb
    replace hL := hL.trans (hb.mono hlo51)
    have hlo52 : lo ≤ w52.heap.size := Nat.le_trans hlo51 hb.size
    refine tlStoreV (Δ := [(2, Ty.ex (.pointer (some ⟨g2, 0, none⟩)))]) hF rfl rfl rfl rfl (hF.getEx (s := 70) rfl) hb2' rfl sizeRes (res_one ⟨_, _, _, rfl⟩ ⟨_, _, _, rfl⟩ hsLA) (hF.keep [2]) rfl ?_
    intro w53 hF hb2'' hkx
    have hsl := hg2S ((Keeps.of_below (S := [g2]) hb).trans hkx)
    have hB53 : Below w.heap.size w w53 := below_own (hfin hL) hkx (by intro y hy; simp only [List.mem_singleton] at hy; omega)
    replace hB := hB53
    refine' tlOp hF rfl rfl rfl ?_ ?_
    rotate_left
    · exact cAssign rfl rfl
    intro a w54 hF hb
    have hBs := hB.size
    replace hB := hB.trans (hb.mono hB.size)
    try (refine wpList_nil ?_)
    repeat with_reducible first | refine nThen ?_ | refine wp_ret ?_ | refine rThen ?_
    refine retCell2 hF rfl rfl rfl (hb2''.below hb) Tryd.underlying67 rfl sizeRes ?_
    exact ⟨_, rfl, ⟨[_, _], rfl, ⟨nilS, nilS, sL, rfl, sl_nil _ _, sl_nil _ _, (Ty.cls 27 st.L).below hsl hb⟩, rfl, trivial⟩, hB⟩
  | true =>
    rw [hz] at hF
    simp only [if_true]
    refine cond_f hF rfl ?_
    repeat with_reducible first | refine wp_seq ?_ | refine nThen ?_ | refine wp_skip ?_
    have hs0 : (Ty.sums 25 st.minus).p w51 s0 := hM.minus.sl
    have hs1 : (Ty.sums 25 st.plus).p w51 s1 := hM.plus.sl
    have hO0 := of_ty st.minus (by omega)
    have hO1 := of_ty st.plus (by omega)
    have hsl0 := hM.tab.sl
    generalize setL st.plus = P at *
    generalize setL st.minus = M at *
    refine' region_ty 17 mixed (by kernel_rfl) hF ?_ ?_
    rotate_left
    · simp only [List.take_succ_cons, List.take_zero]
      repeat (first | exact Line.nil | ((refine' Line.cons rfl (.run rfl rfl ?_) ?_); (any_goals (first | exact cMove rfl rfl | exact cNilOk rfl rfl | exact cPeelR rfl (.l rfl hat) | exact cIndexArr (k := 1) rfl (.t rfl) rfl Tryd.underlying107 sizeSS1 (by decide) | exact cIndexArr (k := 0) rfl (.t rfl) rfl Tryd.underlying107 sizeSS1 (by decide) | exact cLoad1 (u := s1) rfl (.t rfl) (pts_at _ _) Tryd.underlying33 rfl | exact cLoad1 (u := s0) rfl (.t rfl) (pts_at _ _) Tryd.underlying33 rfl | exact cCallS1 rfl (.l rfl hs1) hO1 | exact cCallS1 rfl (.l rfl hs0) hO0 | exact cPeelT rfl (.l rfl hat) | exact cLoadT46 rfl (Has.c (.t rfl) hatT) | exact cBuildRes (P := P) (M := M) (L := st.L) rfl rfl rfl rfl hsl0 rfl rfl)); rotate_left))
    intro a w52 hF hb hN
    have hBs := hB.size
    replace hB := hB.trans (hb.mono hB.size)
    simp only [List.take_succ_cons, List.take_zero, List.drop_succ_cons, List.drop_zero] at hF hN ⊢
    dsimp only [ext, Option.getD] at hF
    replace hb2' := hb2'.below hb
    replace hL := hL.trans (hb.mono hlo51)
    obtain ⟨z, ⟨p, q, s', rfl, k1, k2, k3⟩, hF⟩ := hF.open (s := 87) rfl
    refine tlStoreV (Δ := [(2, Ty.ex (.pointer (some ⟨g2, 0, none⟩)))]) hF rfl rfl rfl rfl (hF.getEx (s := 87) rfl) hb2' rfl sizeRes (res_one (sl_isA k1) (sl_isA k2) (sl_isA k3)) (hF.keep [2]) rfl ?_
    intro w53 hF hb2'' hkx
    have hres : (Ty.res P M seed st.L).p w53 (.agg #[p, q, .int .u64 (seed : Int), s']) := (Ty.res P M seed st.L).far (by exact ⟨p, q, s', rfl, k1, k2, k3⟩) hkx hb2' rfl
    have hB53 : Below w.heap.size w w53 := below_own (hfin hL) hkx (by intro y hy; simp only [List.mem_singleton] at hy; omega)
    replace hB := hB53
    refine' tlOp hF rfl rfl rfl ?_ ?_
    rotate_left
    · exact cAssign rfl rfl
    intro a w54 hF hb
    have hBs := hB.size
    replace hB := hB.trans (hb.mono hB.size)
    try (refine wpList_nil ?_)
    repeat with_reducible first | refine nThen ?_ | refine wp_ret ?_
    refine retCell2 hF rfl rfl rfl (hb2''.below hb) Tryd.underlying67 rfl sizeRes ?_
    exact ⟨_, rfl, ⟨[_, _], rfl, (Ty.res P M seed st.L).below hres hb, rfl, trivial⟩, hB⟩
end Go.Proofs.YtgmeagkolahkoaaDoor

/- Layer 15 by types: TableKnown. -/
namespace Go.Proofs.YtgmeagkolahkoaaDoor
open Go.RowKit

theorem minL_good {s t : Nat} {A B : List Cl} (h : minOk s t A B = true) : minL s t A B = tminus A B := by unfold minL; rw [h]; rfl
theorem minS_good {s t : Nat} {A B : List Cl} (h : minOk s t A B = true) : minS s t A B = s := by unfold minS; rw [h]; rfl
theorem minE_good {s t : Nat} {A B : List Cl} (h : minOk s t A B = true) : minE s t A B = .int .i64 0 := by unfold minE; rw [h]; rfl
end Go.Proofs.YtgmeagkolahkoaaDoor

/- peel.Own by types. -/
namespace Go.Proofs.YtgmeagkolahkoaaDoor
open Go.RowKit

/-- The address of a result that is read. -/
def Ty.resA (P M : List Sm) (sd : Nat) (L : List Cl) : Ty := ⟨fun w v => ∃ p q s, (Ty.at_ ResT [p, q, .int .u64 (sd : Int), s]).p w v ∧ SlP w 25 p P.length (flat P) ∧ SlP w 25 q M.length (flat M) ∧ SlP w 27 s L.length (flatC L), fun t => t == ResT || (t == 25 || t == 27), fun {w w' v G} ⟨p, q, s, h1, h2, h3, h4⟩ k hA => by
  have a0 : Apart w G (fun t => t == ResT) := fun b hb hl => let ⟨cs, t, fr, k1, k2⟩ := hA b hb hl; ⟨cs, t, fr, k1, by simp only [Bool.or_eq_false_iff] at k2; exact k2.1⟩
  have a1 : Apart w G (fun t => t == 25) := fun b hb hl => let ⟨cs, t, fr, k1, k2⟩ := hA b hb hl; ⟨cs, t, fr, k1, by simp only [Bool.or_eq_false_iff] at k2; exact k2.2.1⟩
  have a2 : Apart w G (fun t => t == 27) := fun b hb hl => let ⟨cs, t, fr, k1, k2⟩ := hA b hb hl; ⟨cs, t, fr, k1, by simp only [Bool.or_eq_false_iff] at k2; exact k2.2.2⟩
  exact ⟨p, q, s, (Ty.at_ ResT _).st h1 k a0, (Ty.sums 25 P).st h2 k a1, (Ty.sums 25 M).st h3 k a1, (Ty.cls 27 L).st h4 k a2⟩⟩
section
variable {ops : Array Oper} {Q : Exit → Act → World → Prop} {N : Nat} {Γ : Ctx} {a : Act} {w : World} {o1 o2 : Oper} {rest : List Oper}
theorem tlNewRes {p q : Nat} {P M : List Sm} {seed : Nat} {L : List Cl} (hF : Fr N Γ a w) (h1 : o1.op = .alloc ResT) (hg1 : o1.guard = none) (hd1 : o1.dst = some p) (hp : p < N) (hpq : Nat.beq p q = false)
    (h2 : o2.op = .store ResT (.tmp p) (.tmp q)) (hg2 : o2.guard = none) (hd2 : o2.dst = none) (hq : look Γ q = some (Ty.res P M seed L))
    (hk : ∀ a' w', Fr N ((p, Ty.resA P M seed L) :: Γ) a' w' → Below w.heap.size w w' → wpList Tryd.prog ops Q rest a' w') : wpList Tryd.prog ops Q (o1 :: o2 :: rest) a w := by
  obtain ⟨v, ⟨x, y, s, rfl, k1, k2, k3⟩, hFo⟩ := hF.open hq
  refine wpList_plain hg1 fun K hK => ?_
  unfold Oper.wp execOp
  simp only [h1, Sem.run_bind, run_alloc_i infoRes, Result.andThen_ok, Sem.run_pure]
  refine hK _ _ ?_
  rw [hd1]
  have hb1 : Below w.heap.size w (w.alloc (.cells #[nilS, nilS, .int .u64 0, nilS] ResT)) := ((Keeps.refl [] w).alloc _).below
  have hF1 : Fr N ((p, Ty.ex (.pointer (some ⟨w.heap.size, 0, none⟩))) :: (q, Ty.ex (.agg #[x, y, .int .u64 (seed : Int), s])) :: Γ) (a.put (some p) (.pointer (some ⟨w.heap.size, 0, none⟩))) (w.alloc (.cells #[nilS, nilS, .int .u64 0, nilS] ResT)) := hFo.put hp hb1 rfl
  have hv3 := hF1.getEx (s := q) (v := .agg #[x, y, .int .u64 (seed : Int), s]) (by rw [look]; simp only [hpq, cond_false]; exact look_same _ _ _)
  refine tlStoreV (Δ := []) hF1 hg2 hd2 h2 (look_same _ _ _) hv3 (Blk.new w _ _) rfl (by rw [sizeRes]; rfl) (res_one (sl_isA k1) (sl_isA k2) (sl_isA k3)) (hF1.keep []) rfl ?_
  intro w' _ hb' hkx
  have hB := below_own hb1 hkx (by intro y hy; simp only [List.mem_singleton] at hy; omega)
  refine hk _ _ (hF.put hp hB ⟨x, y, s, ⟨w.heap.size, 0, _, (0, 0), rfl, hb', fun j u h => by simpa [Value.cells] using h⟩, (Ty.sums 25 P).below k1 hB, (Ty.sums 25 M).below k2 hB, (Ty.cls 27 L).below k3 hB⟩) hB
end
section
variable {w0 : World} {Γ : Ctx} {o : Oper} {x : Operand} {e : TypeId} {xs : List Value}
theorem sizeSL1 : (Tryd.prog.info? 34).map (·.size) = some 1 := by kernel_rfl
end
theorem sums_nil (w : World) : (Ty.sums 25 []).p w nilS := sl_nil w 25
end Go.Proofs.YtgmeagkolahkoaaDoor

/- Layer 16 by types: awake, PeelSelf, PeelOne, PeelRoom. -/
namespace Go.Proofs.YtgmeagkolahkoaaDoor
open Go.RowKit

theorem few13 : ¬ fewS 1 = fewS 3 := fun h => absurd (congrArg Sm.l h) (by decide +kernel)
theorem few23 : ¬ fewS 2 = fewS 3 := fun h => absurd (congrArg Sm.l h) (by decide +kernel)
theorem fewL_srt (l : List Int) : srt (fewL l) := setL_srt _
end Go.Proofs.YtgmeagkolahkoaaDoor

/- Layer 16 by types: a result's fields; PeelAll. -/
namespace Go.Proofs.YtgmeagkolahkoaaDoor
open Go.RowKit

/-- The address of a slice that is read. -/
def Ty.selS (t e : TypeId) (n : Nat) (xs : List Value) : Ty := ⟨fun w v => ∃ p, (Ty.at_ t [p]).p w v ∧ SlP w e p n xs, fun u => u == t || u == e, fun ⟨p, h1, h2⟩ k hA =>
  ⟨p, (Ty.at_ t _).st h1 k fun b hb hl => let ⟨cs, t', fr, k1, k2⟩ := hA b hb hl; ⟨cs, t', fr, k1, (Bool.or_eq_false_iff.1 k2).1⟩, (Ty.sl e n xs).st h2 k fun b hb hl => let ⟨cs, t', fr, k1, k2⟩ := hA b hb hl; ⟨cs, t', fr, k1, (Bool.or_eq_false_iff.1 k2).2⟩⟩⟩
section
variable {w0 : World} {Γ : Ctx} {o : Oper} {x : Operand} {P M : List Sm} {sd : Nat} {L : List Cl}
theorem cSelP (ho : o.op = .fieldAddr ResT x 0) (hx : Has w0 Γ x (Ty.resA P M sd L)) : OpOk Tryd.prog w0 Γ o (Ty.selS ResT 25 P.length (flat P)) :=
  .val fun a w hb hs => by
    obtain ⟨v, h1, p, q, s, ⟨g, off, cs, fr, rfl, h2, h3⟩, k1, k2, k3⟩ := hx.see hs (by simp [ho, Op.operands]) hb
    have hr := run_fieldAt (P := Tryd.prog) (i := 0) Tryd.underlying67 rfl sizeSL1 g off w
    refine ⟨.pointer (some ⟨g, off + 0, none⟩), ⟨p, ⟨g, off + 0, cs, fr, rfl, h2, fun j u hu => ?_⟩, k1⟩, ?_⟩
    · cases j with
      | zero => exact h3 0 u hu
      | succ j => simp at hu
    · unfold execOp
      simp [ho, h1, hr]
theorem cSelM (ho : o.op = .fieldAddr ResT x 1) (hx : Has w0 Γ x (Ty.resA P M sd L)) : OpOk Tryd.prog w0 Γ o (Ty.selS ResT 25 M.length (flat M)) :=
  .val fun a w hb hs => by
    obtain ⟨v, h1, p, q, s, ⟨g, off, cs, fr, rfl, h2, h3⟩, k1, k2, k3⟩ := hx.see hs (by simp [ho, Op.operands]) hb
    have hr := run_fieldAt (P := Tryd.prog) (i := 1) Tryd.underlying67 rfl sizeSL1 g off w
    refine ⟨.pointer (some ⟨g, off + 1, none⟩), ⟨q, ⟨g, off + 1, cs, fr, rfl, h2, fun j u hu => ?_⟩, k2⟩, ?_⟩
    · cases j with
      | zero => exact h3 1 u hu
      | succ j => simp at hu
    · unfold execOp
      simp [ho, h1, hr]
theorem cLoadSel {t e : TypeId} {n : Nat} {xs : List Value} (ho : o.op = .load 34 x) (hx : OpT Γ x (Ty.selS t e n xs)) : OpOk Tryd.prog w0 Γ o (Ty.sl e n xs) :=
  .val fun a w hb hs => by
    obtain ⟨v, h1, p, hat, hsl⟩ := hs x _ (by simp [ho, Op.operands]) hx
    obtain ⟨ad, rfl, h3⟩ := pts_at _ _ w v hat
    refine ⟨p, hsl, ?_⟩
    have h4 := run_loadVar_one (P := Tryd.prog) h3 Tryd.underlying34 rfl
    unfold execOp
    simp [ho, h1, Instr.loadAt, Instr.sureAddr, h4]
end
end Go.Proofs.YtgmeagkolahkoaaDoor

/- Strata by types: a row of tables; a strata. -/
namespace Go.Proofs.YtgmeagkolahkoaaDoor
open Go.RowKit

abbrev StT : TypeId := 31
def flatT (sd : Nat) (ss : List Value) : List Value := ss.flatMap fun s => [.int .u64 (sd : Int), s]
theorem flatT_len (sd : Nat) (ss : List Value) : (flatT sd ss).length = ss.length * 2 := by
  induction ss with
  | nil => rfl
  | cons s ss ih =>
    have : flatT sd (s :: ss) = .int .u64 (sd : Int) :: s :: flatT sd ss := rfl
    rw [this, List.length_cons, List.length_cons, ih, List.length_cons]
    omega
theorem flatT_at (sd : Nat) : ∀ (ss : List Value) {k : Nat}, k < ss.length → (flatT sd ss).drop (k * 2) = [.int .u64 (sd : Int), ss.getD k nilS] ++ flatT sd (ss.drop (k + 1))
  | [], _, h => by simp at h
  | s :: ss, 0, _ => rfl
  | s :: ss, k + 1, h => by
    have : flatT sd (s :: ss) = .int .u64 (sd : Int) :: s :: flatT sd ss := rfl
    rw [this, show (k + 1) * 2 = k * 2 + 1 + 1 by omega, List.drop_succ_cons, List.drop_succ_cons, flatT_at sd ss (by simpa using h)]
    rfl
theorem flatT_snoc (sd : Nat) (ss : List Value) (s : Value) : flatT sd (ss ++ [s]) = flatT sd ss ++ [.int .u64 (sd : Int), s] := by
  unfold flatT
  rw [List.flatMap_append]
  rfl
/-- All of ss read the rows Ls. -/
def Slc (w : World) (e : TypeId) (ss : List Value) (Ls : List (List Cl)) : Prop := ss.length = Ls.length ∧ ∀ k, k < Ls.length → SlP w e (ss.getD k nilS) (Ls.getD k []).length (flatC (Ls.getD k []))
theorem Slc.nil (w : World) (e : TypeId) : Slc w e [] [] := ⟨rfl, fun k h => by simp at h⟩
theorem Slc.snoc {w : World} {e : TypeId} {ss : List Value} {Ls : List (List Cl)} (h : Slc w e ss Ls) {s : Value} {L : List Cl} (hs : SlP w e s L.length (flatC L)) : Slc w e (ss ++ [s]) (Ls ++ [L]) := by
  refine ⟨by rw [List.length_append, List.length_append, h.1]; rfl, fun k hk => ?_⟩
  rw [List.length_append, List.length_singleton] at hk
  by_cases hl : k < Ls.length
  · rw [show (ss ++ [s]).getD k nilS = ss.getD k nilS by simp [List.getD, List.getElem?_append_left (h.1 ▸ hl)], show (Ls ++ [L]).getD k [] = Ls.getD k [] by simp [List.getD, List.getElem?_append_left hl]]
    exact h.2 k hl
  · have hk : k = Ls.length := by omega
    have e1 : (ss ++ [s]).getD k nilS = s := by rw [hk, ← h.1]; simp [List.getD]
    have e2 : (Ls ++ [L]).getD k [] = L := by rw [hk]; simp [List.getD]
    rw [e1, e2]
    exact hs
theorem Slc.st {w w' : World} {e : TypeId} {ss : List Value} {Ls : List (List Cl)} {G : List Nat} (h : Slc w e ss Ls) (k : Keeps G w w') (hA : Apart w G (fun t => t == e)) : Slc w' e ss Ls := ⟨h.1, fun j hj => (Ty.cls e _).st (h.2 j hj) k hA⟩
theorem apart_l {w : World} {G : List Nat} {f g : TypeId → Bool} (h : Apart w G fun t => f t || g t) : Apart w G f := fun b hb hl => let ⟨cs, t, fr, k1, k2⟩ := h b hb hl; ⟨cs, t, fr, k1, (Bool.or_eq_false_iff.1 k2).1⟩
theorem apart_r {w : World} {G : List Nat} {f g : TypeId → Bool} (h : Apart w G fun t => f t || g t) : Apart w G g := fun b hb hl => let ⟨cs, t, fr, k1, k2⟩ := h b hb hl; ⟨cs, t, fr, k1, (Bool.or_eq_false_iff.1 k2).2⟩
/-- A row of tables, all of one seed. -/
def Ty.tabs (T e : TypeId) (sd : Nat) (Ls : List (List Cl)) : Ty := ⟨fun w v => ∃ ss, Slc w e ss Ls ∧ SlP w T v Ls.length (flatT sd ss), fun t => t == e || t == T, fun ⟨ss, h1, h2⟩ k hA => ⟨ss, h1.st k (apart_l hA), (Ty.sl T _ _).st h2 k (apart_r hA)⟩⟩
theorem Ty.tabs_isSl (T e : TypeId) (sd : Nat) (Ls : List (List Cl)) : IsSl (Ty.tabs T e sd Ls) Ls.length := fun _ _ ⟨_, _, A, c, h, _⟩ => ⟨A, c, h⟩
/-- A strata, its parts: a value of these two; an address that reads them; the address of the second. -/
def Ty.stra (T e : TypeId) (sd : Nat) (Ls : List (List Cl)) : Ty := ⟨fun w v => ∃ s, v = .agg #[.int .u64 (sd : Int), s] ∧ (Ty.tabs T e sd Ls).p w s, fun t => t == e || t == T, fun ⟨s, h1, h2⟩ k hA => ⟨s, h1, (Ty.tabs T e sd Ls).st h2 k hA⟩⟩
def Ty.straP (Z T e : TypeId) (sd : Nat) (Ls : List (List Cl)) : Ty := ⟨fun w v => ∃ s, (Ty.at_ Z [.int .u64 (sd : Int), s]).p w v ∧ (Ty.tabs T e sd Ls).p w s, fun t => t == Z || (t == e || t == T), fun ⟨s, h1, h2⟩ k hA => ⟨s, (Ty.at_ Z _).st h1 k (apart_l hA), (Ty.tabs T e sd Ls).st h2 k (apart_r hA)⟩⟩
def Ty.straL (Z T e : TypeId) (sd : Nat) (Ls : List (List Cl)) : Ty := ⟨fun w v => ∃ s, (Ty.at_ Z [s]).p w v ∧ (Ty.tabs T e sd Ls).p w s, fun t => t == Z || (t == e || t == T), fun ⟨s, h1, h2⟩ k hA => ⟨s, (Ty.at_ Z _).st h1 k (apart_l hA), (Ty.tabs T e sd Ls).st h2 k (apart_r hA)⟩⟩
section
variable {P : Program} {w0 : World} {Γ : Ctx} {o : Oper} {x ix : Operand} {T e Z : TypeId} {sd : Nat} {Ls : List (List Cl)}
theorem cIndexTab {t : TypeId} {kd : IntKind} {k : Nat} (ho : o.op = .indexAddr t x ix) (hx : Has w0 Γ x (Ty.tabs T e sd Ls)) (hi : OpT Γ ix (Ty.ex (.int kd (k : Int)))) (hu : P.underlying t = some (.slice T)) (hz : (P.info? T).map (·.size) = some 2) (hk : k < Ls.length) : OpOk P w0 Γ o (Ty.tabP T e sd (Ls.getD k [])) :=
  .val fun a w hb hs => by
    obtain ⟨v, h1, ss, ⟨hl, hss⟩, hsl⟩ := hx.see hs (by simp [ho, Op.operands]) hb
    obtain ⟨i, h5, h6⟩ := hs ix _ (by simp [ho, Op.operands]) hi
    have h6 : i = .int kd (k : Int) := h6
    have hsl0 := hsl
    obtain ⟨A, c, rfl, _, _, _, _⟩ := hsl0
    obtain ⟨g, off, rfl, hat⟩ := SlP.elem hsl (k := k * 2) (by rw [flatT_len]; omega)
    have hat := hat (k * 2)
    rw [flatT_at sd ss (by omega)] at hat
    obtain ⟨inf, hinf, hsz⟩ := Option.map_eq_some_iff.1 hz
    refine ⟨_, ⟨ss.getD k nilS, at_pre _ _ hat, hss k hk⟩, ?_⟩
    unfold execOp
    simp [ho, h1, h5, h6, Instr.indexAt, asIntOf, run_underlying hu, hk, sizeOf, typeInfo, hinf, hsz, Addr.add_lit]
end
section
variable {w0 : World} {Γ : Ctx} {o : Oper} {x ix : Operand} {T e : TypeId} {sd : Nat} {Ls : List (List Cl)}
theorem sizeTLA : (Tryd.prog.info? 29).map (·.size) = some 1 := by kernel_rfl
theorem infoStA : (Tryd.prog.info? StT).map (fun i => (i.zero, i.size, i.bytes)) = some (some (.agg #[.int .u64 0, nilS]), 2, 32) := by kernel_rfl
theorem sizeStA : (Tryd.prog.info? StT).map (·.size) = some 2 := by kernel_rfl
theorem cStraSA (ho : o.op = .fieldAddr StT x 0) (hx : Has w0 Γ x (Ty.straP StT T e sd Ls)) : OpOk Tryd.prog w0 Γ o (Ty.at_ StT [.int .u64 (sd : Int)]) :=
  .val fun a w hb hs => by
    obtain ⟨v, h1, s, ⟨g, off, cs, fr, rfl, h2, h3⟩, k1⟩ := hx.see hs (by simp [ho, Op.operands]) hb
    have hr := run_fieldAt (P := Tryd.prog) (i := 0) Tryd.underlying31 rfl size_u64 g off w
    refine ⟨.pointer (some ⟨g, off + 0, none⟩), ⟨g, off + 0, cs, fr, rfl, h2, fun j u hu => ?_⟩, ?_⟩
    · cases j with
      | zero => exact h3 0 u hu
      | succ j => simp at hu
    · unfold execOp
      simp [ho, h1, hr]
theorem cStraLA (ho : o.op = .fieldAddr StT x 1) (hx : Has w0 Γ x (Ty.straP StT T e sd Ls)) : OpOk Tryd.prog w0 Γ o (Ty.straL StT T e sd Ls) :=
  .val fun a w hb hs => by
    obtain ⟨v, h1, s, ⟨g, off, cs, fr, rfl, h2, h3⟩, k1⟩ := hx.see hs (by simp [ho, Op.operands]) hb
    have hr := run_fieldAt (P := Tryd.prog) (i := 1) Tryd.underlying31 rfl sizeTLA g off w
    refine ⟨.pointer (some ⟨g, off + 1, none⟩), ⟨s, ⟨g, off + 1, cs, fr, rfl, h2, fun j u hu => ?_⟩, k1⟩, ?_⟩
    · cases j with
      | zero => exact h3 1 u hu
      | succ j => simp at hu
    · unfold execOp
      simp [ho, h1, hr]
theorem cLoadTsA (ho : o.op = .load 29 x) (hx : Has w0 Γ x (Ty.straL StT T e sd Ls)) : OpOk Tryd.prog w0 Γ o (Ty.tabs T e sd Ls) :=
  .val fun a w hb hs => by
    obtain ⟨v, h1, s, hat, hsl⟩ := hx.see hs (by simp [ho, Op.operands]) hb
    obtain ⟨ad, rfl, h3⟩ := pts_at _ _ w v hat
    refine ⟨s, hsl, ?_⟩
    have h4 := run_loadVar_one (P := Tryd.prog) h3 Tryd.underlying29 rfl
    unfold execOp
    simp [ho, h1, Instr.loadAt, Instr.sureAddr, h4]
theorem cLoadStA (ho : o.op = .load StT x) (hx : Has w0 Γ x (Ty.straP StT T e sd Ls)) : OpOk Tryd.prog w0 Γ o (Ty.stra T e sd Ls) :=
  .val fun a w hb hs => by
    obtain ⟨v, h1, s, hat, hsl⟩ := hx.see hs (by simp [ho, Op.operands]) hb
    obtain ⟨ad, rfl, h3⟩ := pts_at _ _ w v hat
    refine ⟨.agg #[.int .u64 (sd : Int), s], ⟨s, rfl, hsl⟩, ?_⟩
    have h4 := run_loadVar_rd (P := Tryd.prog) h3 Tryd.underlying31 rfl (by rw [sizeStA]; rfl)
    unfold execOp
    simp [ho, h1, Instr.loadAt, Instr.sureAddr, h4]
theorem cIdxTA {kd : IntKind} {k : Nat} (ho : o.op = .indexAddr 29 x ix) (hx : Has w0 Γ x (Ty.tabs 38 e sd Ls)) (hi : OpT Γ ix (Ty.ex (.int kd (k : Int)))) (hk : k < Ls.length) : OpOk Tryd.prog w0 Γ o (Ty.tabP 38 e sd (Ls.getD k [])) := cIndexTab ho hx hi Tryd.underlying29 sizeT46 hk
theorem cLenTA (ho : o.op = .call { callee := .builtin .len, args := #[x], argTypes := #[29] }) (hx : Has w0 Γ x (Ty.tabs T e sd Ls)) : OpOk Tryd.prog w0 Γ o (Ty.ex (.int .i64 (Ls.length : Int))) := cLenH ho hx (Ty.tabs_isSl _ _ _ _) Tryd.underlying29
end
end Go.Proofs.YtgmeagkolahkoaaDoor

/- Strata by types: Cells, Good. -/
namespace Go.Proofs.YtgmeagkolahkoaaDoor
open Go.RowKit

section
variable {P : Program} {w0 : World} {Γ : Ctx} {o : Oper}
theorem cMaxI {t1 t2 : TypeId} {x : Operand} {m n : Int} (ho : o.op = .call { callee := .builtin .max, args := #[x, .const (.int .i64 n)], argTypes := #[t1, t2] }) (hx : OpT Γ x (Ty.ex (.int .i64 m))) : OpOk P w0 Γ o (Ty.ex (.int .i64 (max m n))) :=
  .val fun a w _ hs => by
    obtain ⟨v, h1, h2⟩ := hs x _ (by simp [ho, Op.operands, Call.operands]) hx
    have h2 : v = .int .i64 m := h2
    refine ⟨_, rfl, ?_⟩
    unfold execOp
    have hc : a.eval (.const (.int .i64 n)) = .int .i64 n := rfl
    simp [ho, h1, h2, hc, resolve, invoke, builtin, Builtin.max_, Builtin.max2]
    omega
theorem cMinT {t1 t2 : TypeId} {x y : Operand} {m n : Int} (ho : o.op = .call { callee := .builtin .min, args := #[x, y], argTypes := #[t1, t2] }) (hx : OpT Γ x (Ty.ex (.int .i64 m))) (hy : OpT Γ y (Ty.ex (.int .i64 n))) : OpOk P w0 Γ o (Ty.ex (.int .i64 (min m n))) :=
  .val fun a w _ hs => by
    obtain ⟨v, h1, h2⟩ := hs x _ (by simp [ho, Op.operands, Call.operands]) hx
    obtain ⟨u, h3, h4⟩ := hs y _ (by simp [ho, Op.operands, Call.operands]) hy
    have h2 : v = .int .i64 m := h2
    have h4 : u = .int .i64 n := h4
    refine ⟨_, rfl, ?_⟩
    unfold execOp
    simp [ho, h1, h2, h3, h4, resolve, invoke, builtin, Builtin.min_, Builtin.min2]
    omega
/-- A call through a closure. -/
theorem cCallCT {f : FuncId} {ats : Array TypeId} {x0 x : Operand} {cb : Array Value} {τ ρ : Ty} (ho : o.op = .call { callee := .value x0, args := #[x], argTypes := ats }) (h0 : OpT Γ x0 (Ty.ex (.func (.func f) #[] cb))) (hx : Has w0 Γ x τ) (he : Enters P f) (hc : ∀ w v, Below w0.heap.size w0 w → τ.p w v → Ret P f (#[v] ++ cb) w ρ) : OpOk P w0 Γ o ρ :=
  .call fun a w hb hs => by
    obtain ⟨v0, k1, k2⟩ := hs x0 _ (by simp [ho, Op.operands, Call.operands]) h0
    have k2 : v0 = .func (.func f) #[] cb := k2
    obtain ⟨u, h1, h2⟩ := hx.see hs (by simp [ho, Op.operands, Call.operands]) hb
    refine ⟨f, #[u] ++ cb, ?_, hc w u hb h2⟩
    rw [exec_goV a.eval ho (k1.trans k2)]
    simp only [List.map_toArray, List.map_cons, List.map_nil, h1]
    exact he _ w
end
section
variable {w0 : World} {Γ : Ctx} {o : Oper} {x : Operand} {e : TypeId} {xs : List Value}
theorem cSt0 (ho : o.op = .fieldAddr StT x 0) (hx : Has w0 Γ x (Ty.at_ e xs)) : OpOk Tryd.prog w0 Γ o (Ty.at_ e xs) :=
  (cFieldE (P := Tryd.prog) ho hx Tryd.underlying31 rfl size_u64).conv fun _ _ h => h
theorem cSt1 (ho : o.op = .fieldAddr StT x 1) (hx : Has w0 Γ x (Ty.at_ e xs)) : OpOk Tryd.prog w0 Γ o (Ty.at_ e (xs.drop 1)) :=
  cFieldE (P := Tryd.prog) ho hx Tryd.underlying31 rfl sizeTLA
end
set_option maxRecDepth 100000 in
theorem cells_ty (d : Int) : Fn1 Tryd.prog 17 (Ty.ex (.int .i64 d)) (Ty.ex (.int .i64 (cellsN d))) := by
  refine ⟨fun args w => by kernel_rfl, fun w v hv => ?_⟩
  by_cases c1 : 1023 ≤ d
  · have e : cellsN d = 1023 := by unfold cellsN; rw [if_pos c1]
    rw [e]
    refine enter_ty 22 [Ty.ex (.int .i64 d)] Tryd.func17 rfl (by kernel_rfl) ⟨hv, trivial⟩ fun a hF => ?_
    have hB := Below.refl w.heap.size w
    repeat with_reducible first | refine wp_seq ?_ | refine nThen ?_ | refine wp_skip ?_ | refine wp_ret ?_ | refine rThen ?_
    refine' reg_all hF ?_ mixed (by kernel_rfl) ?_
    rotate_left
    · repeat (first
          | exact Line.nil
          | ((refine' Line.cons rfl (.run rfl rfl ?_) ?_)
             any_goals (first | exact cMove rfl rfl | exact cAssign rfl rfl | exact cGeq rfl rfl rfl)
             rotate_left))
    intro a w1 hF hb hN
    have hBs := hB.size
    replace hB := hB.trans (hb.mono hB.size)
    dsimp only [ext, Option.getD] at hF
    repeat with_reducible first | refine wp_seq ?_ | refine nThen ?_ | refine wp_skip ?_ | refine wp_ret ?_ | refine rThen ?_
    refine' reg_all hF ?_ mixed (by kernel_rfl) ?_
    rotate_left
    · repeat (first
          | exact Line.nil
          | ((refine' Line.cons rfl (.run rfl rfl ?_) ?_)
             any_goals (first | exact cMove rfl rfl | exact cAssign rfl rfl | exact cGeq rfl rfl rfl)
             rotate_left))
    intro a w2 hF hb hN
    have hBs := hB.size
    replace hB := hB.trans (hb.mono hB.size)
    dsimp only [ext, Option.getD] at hF
    repeat with_reducible first | refine wp_seq ?_ | refine nThen ?_ | refine wp_skip ?_ | refine wp_ret ?_ | refine rThen ?_
    refine' reg_all hF ?_ mixed (by kernel_rfl) ?_
    rotate_left
    · repeat (first
          | exact Line.nil
          | ((refine' Line.cons rfl (.run rfl rfl ?_) ?_)
             any_goals (first | exact cMove rfl rfl | exact cAssign rfl rfl | exact OpOk.b (c := true) (cGeq rfl rfl rfl) (decide_eq_true (by omega)) | exact cGeq rfl rfl rfl)
             rotate_left))
    intro a w3 hF hb hN
    have hBs := hB.size
    replace hB := hB.trans (hb.mono hB.size)
    dsimp only [ext, Option.getD] at hF
    repeat with_reducible first | refine wp_seq ?_ | refine nThen ?_ | refine wp_skip ?_ | refine wp_ret ?_ | refine rThen ?_
    refine cond_t hF rfl ?_
    repeat with_reducible first | refine wp_seq ?_ | refine nThen ?_ | refine wp_skip ?_ | refine wp_ret ?_ | refine rThen ?_
    refine' reg_all hF ?_ mixed (by kernel_rfl) ?_
    rotate_left
    · repeat (first
          | exact Line.nil
          | ((refine' Line.cons rfl (.run rfl rfl ?_) ?_)
             any_goals (first | exact cMove rfl rfl | exact cAssign rfl rfl | exact cGeq rfl rfl rfl)
             rotate_left))
    intro a w4 hF hb hN
    have hBs := hB.size
    replace hB := hB.trans (hb.mono hB.size)
    dsimp only [ext, Option.getD] at hF
    repeat with_reducible first | refine wp_seq ?_ | refine nThen ?_ | refine wp_skip ?_ | refine wp_ret ?_ | refine rThen ?_
    refine ret1 hF rfl rfl fun z hz => ?_
    exact ⟨z, rfl, hz, hB⟩
  obtain ⟨D, hD⟩ : ∃ D : Nat, max d 0 = (D : Int) := ⟨(max d 0).toNat, by omega⟩
  have hD2 : D < 1023 := by omega
  obtain ⟨Q, hQ⟩ : ∃ Q : Nat, Q = (3 * D + 1) / 2 := ⟨_, rfl⟩
  obtain ⟨M, hM⟩ : ∃ M : Nat, M = max Q 12 := ⟨_, rfl⟩
  obtain ⟨R, hR⟩ : ∃ R : Nat, R = (M + 2) / 3 := ⟨_, rfl⟩
  have e : cellsN d = min ((R * 3 : Nat) : Int) 1023 := by
    unfold cellsN
    rw [if_neg c1]
    omega
  rw [e]
  refine enter_ty 22 [Ty.ex (.int .i64 d)] Tryd.func17 rfl (by kernel_rfl) ⟨hv, trivial⟩ fun a hF => ?_
  have hB := Below.refl w.heap.size w
  repeat with_reducible first | refine wp_seq ?_ | refine nThen ?_ | refine wp_skip ?_ | refine wp_ret ?_ | refine rThen ?_
  refine' reg_all hF ?_ mixed (by kernel_rfl) ?_
  rotate_left
  · repeat (first
        | exact Line.nil
        | ((refine' Line.cons rfl (.run rfl rfl ?_) ?_)
           any_goals (first | exact cMove rfl rfl | exact cAssign rfl rfl | exact cGeq rfl rfl rfl)
           rotate_left))
  intro a w1 hF hb hN
  have hBs := hB.size
  replace hB := hB.trans (hb.mono hB.size)
  dsimp only [ext, Option.getD] at hF
  repeat with_reducible first | refine wp_seq ?_ | refine nThen ?_ | refine wp_skip ?_ | refine wp_ret ?_ | refine rThen ?_
  refine' reg_all hF ?_ mixed (by kernel_rfl) ?_
  rotate_left
  · repeat (first
        | exact Line.nil
        | ((refine' Line.cons rfl (.run rfl rfl ?_) ?_)
           any_goals (first | exact cMove rfl rfl | exact cAssign rfl rfl | exact cGeq rfl rfl rfl)
           rotate_left))
  intro a w2 hF hb hN
  have hBs := hB.size
  replace hB := hB.trans (hb.mono hB.size)
  dsimp only [ext, Option.getD] at hF
  repeat with_reducible first | refine wp_seq ?_ | refine nThen ?_ | refine wp_skip ?_ | refine wp_ret ?_ | refine rThen ?_
  refine' reg_all hF ?_ mixed (by kernel_rfl) ?_
  rotate_left
  · repeat (first
        | exact Line.nil
        | ((refine' Line.cons rfl (.run rfl rfl ?_) ?_)
           any_goals (first | exact cMove rfl rfl | exact cAssign rfl rfl | exact OpOk.b (c := false) (cGeq rfl rfl rfl) (decide_eq_false (by omega)) | exact cGeq rfl rfl rfl)
           rotate_left))
  intro a w3 hF hb hN
  have hBs := hB.size
  replace hB := hB.trans (hb.mono hB.size)
  dsimp only [ext, Option.getD] at hF
  repeat with_reducible first | refine wp_seq ?_ | refine nThen ?_ | refine wp_skip ?_ | refine wp_ret ?_ | refine rThen ?_
  refine cond_f hF rfl ?_
  repeat with_reducible first | refine wp_seq ?_ | refine nThen ?_ | refine wp_skip ?_ | refine wp_ret ?_ | refine rThen ?_
  refine wp_region_lit ?_
  refine' tlOp hF rfl rfl rfl ?_ ?_
  rotate_left
  · first | exact cMove rfl rfl | exact cAssign rfl rfl | exact cGeq rfl rfl rfl
  intro a w4 hF hb
  have hBs := hB.size
  replace hB := hB.trans (hb.mono hB.size)
  try (refine wpList_nil ?_)
  repeat with_reducible first | refine wp_seq ?_ | refine nThen ?_ | refine wp_skip ?_ | refine wp_ret ?_ | refine rThen ?_
  refine' tlOp hF rfl rfl rfl ?_ ?_
  rotate_left
  · first | exact cMaxI rfl rfl | exact cMove rfl rfl | exact cAssign rfl rfl | exact cGeq rfl rfl rfl
  intro a w5 hF hb
  have hBs := hB.size
  replace hB := hB.trans (hb.mono hB.size)
  try (refine wpList_nil ?_)
  repeat with_reducible first | refine wp_seq ?_ | refine nThen ?_ | refine wp_skip ?_ | refine wp_ret ?_ | refine rThen ?_
  rw [hD] at hF
  refine' tlOp hF rfl rfl rfl ?_ ?_
  rotate_left
  · first | exact cMul (r := ((3 * D : Nat) : Int)) rfl rfl rfl (by omega) | exact cMove rfl rfl | exact cAssign rfl rfl | exact cGeq rfl rfl rfl
  intro a w6 hF hb
  have hBs := hB.size
  replace hB := hB.trans (hb.mono hB.size)
  try (refine wpList_nil ?_)
  repeat with_reducible first | refine wp_seq ?_ | refine nThen ?_ | refine wp_skip ?_ | refine wp_ret ?_ | refine rThen ?_
  refine' tlOp hF rfl rfl rfl ?_ ?_
  rotate_left
  · first | exact cAdd (r := ((3 * D + 1 : Nat) : Int)) rfl rfl rfl (by omega) | exact cMove rfl rfl | exact cAssign rfl rfl | exact cGeq rfl rfl rfl
  intro a w7 hF hb
  have hBs := hB.size
  replace hB := hB.trans (hb.mono hB.size)
  try (refine wpList_nil ?_)
  repeat with_reducible first | refine wp_seq ?_ | refine nThen ?_ | refine wp_skip ?_ | refine wp_ret ?_ | refine rThen ?_
  refine' tlOp hF rfl rfl rfl ?_ ?_
  rotate_left
  · first | exact cQuoI (n := 2) (r := Q) rfl rfl rfl (by omega) (by omega) (by omega) | exact cMove rfl rfl | exact cAssign rfl rfl | exact cGeq rfl rfl rfl
  intro a w8 hF hb
  have hBs := hB.size
  replace hB := hB.trans (hb.mono hB.size)
  try (refine wpList_nil ?_)
  repeat with_reducible first | refine wp_seq ?_ | refine nThen ?_ | refine wp_skip ?_ | refine wp_ret ?_ | refine rThen ?_
  refine' tlOp hF rfl rfl rfl ?_ ?_
  rotate_left
  · first | exact cMaxI rfl rfl | exact cMove rfl rfl | exact cAssign rfl rfl | exact cGeq rfl rfl rfl
  intro a w9 hF hb
  have hBs := hB.size
  replace hB := hB.trans (hb.mono hB.size)
  try (refine wpList_nil ?_)
  repeat with_reducible first | refine wp_seq ?_ | refine nThen ?_ | refine wp_skip ?_ | refine wp_ret ?_ | refine rThen ?_
  rw [show max (Q : Int) 12 = (M : Int) by omega] at hF
  refine' tlOp hF rfl rfl rfl ?_ ?_
  rotate_left
  · first | exact cMove rfl rfl | exact cAssign rfl rfl | exact cGeq rfl rfl rfl
  intro a w10 hF hb
  have hBs := hB.size
  replace hB := hB.trans (hb.mono hB.size)
  try (refine wpList_nil ?_)
  repeat with_reducible first | refine wp_seq ?_ | refine nThen ?_ | refine wp_skip ?_ | refine wp_ret ?_ | refine rThen ?_
  refine' reg_all hF ?_ mixed (by kernel_rfl) ?_
  rotate_left
  · repeat (first
        | exact Line.nil
        | ((refine' Line.cons rfl (.run rfl rfl ?_) ?_)
           any_goals (first | exact cMove rfl rfl | exact cAssign rfl rfl | exact cAdd (r := ((M + 3 : Nat) : Int)) rfl rfl rfl (by omega) | exact cSub (r := ((M + 2 : Nat) : Int)) rfl rfl rfl (by omega) | exact cQuoI (n := 3) (r := R) rfl rfl rfl (by omega) (by omega) (by omega) | exact cMul (r := ((R * 3 : Nat) : Int)) rfl rfl rfl (by omega) | exact cMinT rfl rfl rfl | exact cGeq rfl rfl rfl)
           rotate_left))
  intro a w11 hF hb hN
  have hBs := hB.size
  replace hB := hB.trans (hb.mono hB.size)
  dsimp only [ext, Option.getD] at hF
  repeat with_reducible first | refine wp_seq ?_ | refine nThen ?_ | refine wp_skip ?_ | refine wp_ret ?_ | refine rThen ?_
  refine ret1 hF rfl rfl fun z hz => ?_
  exact ⟨z, rfl, hz, hB⟩
/-- All tables are of 24 cells. -/
def allG (Ls : List (List Cl)) : Bool := Ls.all fun L => decide (L.length = 24)
theorem goodSt_is (Ls : List (List Cl)) : goodSt Ls = (decide (Ls.length = 10) && allG Ls) := rfl
theorem allG_bad {Ls : List (List Cl)} {k : Nat} (hk : k < Ls.length) (h : ¬ (Ls.getD k []).length = 24) : allG Ls = false := by
  unfold allG
  rw [List.all_eq_false]
  exact ⟨Ls[k], List.getElem_mem hk, by simpa [List.getD, List.getElem?_eq_getElem hk] using h⟩
theorem allG_all {Ls : List (List Cl)} (h : ∀ k, k < Ls.length → (Ls.getD k []).length = 24) : allG Ls = true := by
  unfold allG
  rw [List.all_eq_true]
  intro c hc
  obtain ⟨k, hk, rfl⟩ := List.getElem_of_mem hc
  simpa [List.getD, List.getElem?_eq_getElem hk] using h k hk
theorem goodSt_get {Ls : List (List Cl)} (h : goodSt Ls = true) : Ls.length = 10 ∧ ∀ k, k < 10 → (Ls.getD k []).length = 24 := by
  rw [goodSt_is, Bool.and_eq_true] at h
  have hl := of_decide_eq_true h.1
  refine ⟨hl, fun k hk => Classical.byContradiction fun hb => ?_⟩
  rw [allG_bad (by omega) hb] at h
  cases h.2
abbrev oddFn (p : Value) : Value := .func (.func 30) #[] #[p]
set_option maxRecDepth 100000 in
theorem odd_ret (sd : Nat) (L : List Cl) (s p : Value) (w : World) (v : Value) (hv : (Ty.tab 27 sd L).p w v) (hp : (Ty.at_ StT [.int .u64 (sd : Int), s]).p w p) : Ret Tryd.prog 30 #[v, p] w (Ty.ex (.bool (!decide (L.length = 24)))) := by
  obtain ⟨s2, rfl, hs⟩ := hv
  by_cases hl : L.length = 24
  · rw [decide_eq_true hl]
    refine enter_ty 15 [Ty.ex (.agg #[.int .u64 (sd : Int), s2]), Ty.ex p] Tryd.func30 rfl (by kernel_rfl) ⟨rfl, rfl, trivial⟩ fun a hF => ?_
    have hB := Below.refl w.heap.size w
    repeat with_reducible first | refine wp_seq ?_ | refine nThen ?_ | refine wp_ret ?_
    refine' reg_all hF ?_ mixed (by kernel_rfl) ?_
    rotate_left
    · repeat (first
          | exact Line.nil
          | (refine' Line.cons rfl (.no rfl rfl rfl rfl rfl rfl) ?_; rotate_left)
          | ((first | refine' Line.cons rfl (.run rfl rfl ?_) ?_ | refine' Line.cons rfl (.yes rfl rfl rfl rfl ?_) ?_)
             any_goals (first | exact cMove rfl rfl | exact cAssign rfl rfl | exact cBoxTab rfl rfl | exact cPickT rfl rfl rfl | exact cPickF rfl rfl rfl | exact cNeq rfl rfl rfl)
             rotate_left))
    intro a w1 hF hb hN
    have hBs := hB.size
    replace hB := hB.trans (hb.mono hB.size)
    dsimp only [ext, Option.getD] at hF
    repeat with_reducible first | refine wp_seq ?_ | refine nThen ?_ | refine wp_ret ?_
    have hs1 := (Ty.cls 27 L).below hs hB
    have hp1 := (Ty.at_ StT _).below hp hB
    refine' reg_all hF ?_ mixed (by kernel_rfl) ?_
    rotate_left
    · repeat (first
          | exact Line.nil
          | (refine' Line.cons rfl (.no rfl rfl rfl rfl rfl rfl) ?_; rotate_left)
          | ((first | refine' Line.cons rfl (.run rfl rfl ?_) ?_ | refine' Line.cons rfl (.yes rfl rfl rfl rfl ?_) ?_)
             any_goals (first | exact cMove rfl rfl | exact cAssign rfl rfl | exact cFldL46 rfl (.t rfl) | exact cRowOf46 rfl (.t rfl) | exact cLenH rfl (.l rfl hs1) (Ty.sl_isSl _ _ _) Tryd.underlying36 | exact OpOk.b (c := false) (cNeq rfl rfl rfl) (by simp [hl]) | exact cFldS46 rfl (.t rfl) | exact cSt0 rfl (.l rfl hp1) | exact cLoadU64 rfl (.t rfl) | exact OpOk.b (c := false) (cNeq rfl rfl rfl) (by simp) | exact cPickT rfl rfl rfl | exact cPickF rfl rfl rfl | exact cNeq rfl rfl rfl)
             rotate_left))
    intro a w2 hF hb hN
    have hBs := hB.size
    replace hB := hB.trans (hb.mono hB.size)
    dsimp only [ext, Option.getD] at hF
    repeat with_reducible first | refine wp_seq ?_ | refine nThen ?_ | refine wp_ret ?_
    refine ret1 hF rfl rfl fun z hz => ?_
    exact ⟨z, rfl, hz, hB⟩
  · rw [decide_eq_false hl]
    refine enter_ty 15 [Ty.ex (.agg #[.int .u64 (sd : Int), s2]), Ty.ex p] Tryd.func30 rfl (by kernel_rfl) ⟨rfl, rfl, trivial⟩ fun a hF => ?_
    have hB := Below.refl w.heap.size w
    repeat with_reducible first | refine wp_seq ?_ | refine nThen ?_ | refine wp_ret ?_
    refine' reg_all hF ?_ mixed (by kernel_rfl) ?_
    rotate_left
    · repeat (first
          | exact Line.nil
          | (refine' Line.cons rfl (.no rfl rfl rfl rfl rfl rfl) ?_; rotate_left)
          | ((first | refine' Line.cons rfl (.run rfl rfl ?_) ?_ | refine' Line.cons rfl (.yes rfl rfl rfl rfl ?_) ?_)
             any_goals (first | exact cMove rfl rfl | exact cAssign rfl rfl | exact cBoxTab rfl rfl | exact cPickT rfl rfl rfl | exact cPickF rfl rfl rfl | exact cNeq rfl rfl rfl)
             rotate_left))
    intro a w1 hF hb hN
    have hBs := hB.size
    replace hB := hB.trans (hb.mono hB.size)
    dsimp only [ext, Option.getD] at hF
    repeat with_reducible first | refine wp_seq ?_ | refine nThen ?_ | refine wp_ret ?_
    have hs1 := (Ty.cls 27 L).below hs hB
    refine' reg_all hF ?_ mixed (by kernel_rfl) ?_
    rotate_left
    · repeat (first
          | exact Line.nil
          | (refine' Line.cons rfl (.no rfl rfl rfl rfl rfl rfl) ?_; rotate_left)
          | ((first | refine' Line.cons rfl (.run rfl rfl ?_) ?_ | refine' Line.cons rfl (.yes rfl rfl rfl rfl ?_) ?_)
             any_goals (first | exact cMove rfl rfl | exact cAssign rfl rfl | exact cFldL46 rfl (.t rfl) | exact cRowOf46 rfl (.t rfl) | exact cLenH rfl (.l rfl hs1) (Ty.sl_isSl _ _ _) Tryd.underlying36 | exact OpOk.b (c := true) (cNeq rfl rfl rfl) (by simp; omega) | exact cPickT rfl rfl rfl | exact cPickF rfl rfl rfl | exact cNeq rfl rfl rfl)
             rotate_left))
    intro a w2 hF hb hN
    have hBs := hB.size
    replace hB := hB.trans (hb.mono hB.size)
    dsimp only [ext, Option.getD] at hF
    repeat with_reducible first | refine wp_seq ?_ | refine nThen ?_ | refine wp_ret ?_
    refine ret1 hF rfl rfl fun z hz => ?_
    exact ⟨z, rfl, hz, hB⟩
/-- A place, or -1. -/
def Ty.idx (b : Bool) : Ty := ⟨fun _ v => ∃ r : Int, v = .int .i64 r ∧ decide (0 ≤ r) = b, fun _ => false, fun h _ _ => h⟩
theorem cGeqIdx {P : Program} {w0 : World} {Γ : Ctx} {o : Oper} {t t2 : TypeId} {x : Operand} {b : Bool} (ho : o.op = .binOp .geq t x (.const (.int .i64 0)) t2) (hx : OpT Γ x (Ty.idx b)) : OpOk P w0 Γ o (Ty.ex (.bool b)) :=
  .val fun a w _ hs => by
    obtain ⟨v, h1, r, h2, h3⟩ := hs x _ (by simp [ho, Op.operands]) hx
    have hc : a.eval (.const (.int .i64 0)) = .int .i64 0 := rfl
    refine ⟨_, rfl, ?_⟩
    unfold execOp
    simp only [ho, h1, h2, hc]
    rw [← h3]
    simp [eqGuard, binOp, Op.intCmp]
set_option maxRecDepth 100000 in
theorem idxT_any (sd : Nat) (Ls : List (List Cl)) (s p : Value) (w : World) (v : Value) (hv : (Ty.tabs 38 27 sd Ls).p w v) (hL : Ls.length ≤ 1000000) (hp : (Ty.at_ StT [.int .u64 (sd : Int), s]).p w p) : Ret Tryd.prog 62 #[v, oddFn p] w (Ty.idx (!allG Ls)) := by
  have he : Enters Tryd.prog 30 := fun args w => by kernel_rfl
  let TL := Ty.tabs 38 27 sd Ls
  let TP := Ty.at_ StT [.int .u64 (sd : Int), s]
  refine enter_ty 19 [Ty.ex v, Ty.ex (oddFn p)] Tryd.func62 rfl (by kernel_rfl) ⟨rfl, rfl, trivial⟩ fun a hF => ?_
  have hB := Below.refl w.heap.size w
  repeat with_reducible first | refine wp_seq ?_ | refine nThen ?_ | refine nBlk ?_ | refine wp_skip ?_ | refine wp_block ?_ | refine wp_exit ?_ | refine xThen ?_ | refine xHere ?_ | refine wp_ret ?_ | refine rThen ?_ | refine rBlk ?_
  refine' reg_all hF ?_ mixed (by kernel_rfl) ?_
  rotate_left
  · repeat (first
        | exact Line.nil
        | ((refine' Line.cons rfl (.run rfl rfl ?_) ?_)
           any_goals (first | exact cMove rfl rfl | exact cAssign rfl rfl | exact cLss rfl rfl rfl)
           rotate_left))
  intro a w1 hF hb hN
  have hBs := hB.size
  replace hB := hB.trans (hb.mono hB.size)
  dsimp only [ext, Option.getD] at hF
  repeat with_reducible first | refine wp_seq ?_ | refine nThen ?_ | refine nBlk ?_ | refine wp_skip ?_ | refine wp_block ?_ | refine wp_exit ?_ | refine xThen ?_ | refine xHere ?_ | refine wp_ret ?_ | refine rThen ?_ | refine rBlk ?_
  refine' reg_all hF ?_ mixed (by kernel_rfl) ?_
  rotate_left
  · repeat (first
        | exact Line.nil
        | ((refine' Line.cons rfl (.run rfl rfl ?_) ?_)
           any_goals (first | exact cMove rfl rfl | exact cAssign rfl rfl | exact cLenTA rfl (.l rfl (TL.below hv hB)) | exact cLss rfl rfl rfl)
           rotate_left))
  intro a w2 hF hb hN
  have hBs := hB.size
  replace hB := hB.trans (hb.mono hB.size)
  dsimp only [ext, Option.getD] at hF
  repeat with_reducible first | refine wp_seq ?_ | refine nThen ?_ | refine nBlk ?_ | refine wp_skip ?_ | refine wp_block ?_ | refine wp_exit ?_ | refine xThen ?_ | refine xHere ?_ | refine wp_ret ?_ | refine rThen ?_ | refine rBlk ?_
  refine loop_ty (fun m a wr => ∃ k : Nat, k + m = Ls.length ∧ Fr 19 [(0, Ty.ex v), (1, Ty.ex (oddFn p)), (7, Ty.ex (.int .i64 (Ls.length : Int))), (8, Ty.ex (.int .i64 (k : Int)))] a wr ∧ Below w.heap.size w wr ∧ ∀ j, j < k → (Ls.getD j []).length = 24) Ls.length ?_ ?_
  · exact ⟨0, by omega, hF.keep [0, 1, 7, 8], hB, fun j hj => by omega⟩
  clear hF hB
  rintro m a wr ⟨k, hk, hF, hB, hlo⟩
  repeat with_reducible first | refine wp_seq ?_ | refine nThen ?_ | refine nBlk ?_ | refine wp_skip ?_ | refine wp_block ?_ | refine wp_exit ?_ | refine xThen ?_ | refine xHere ?_ | refine wp_ret ?_ | refine rThen ?_ | refine rBlk ?_
  refine' reg_all hF ?_ mixed (by kernel_rfl) ?_
  rotate_left
  · repeat (first
        | exact Line.nil
        | ((refine' Line.cons rfl (.run rfl rfl ?_) ?_)
           any_goals (first | exact cMove rfl rfl | exact cAssign rfl rfl | exact cLss rfl rfl rfl)
           rotate_left))
  intro a w3 hF hb hN
  have hBs := hB.size
  replace hB := hB.trans (hb.mono hB.size)
  dsimp only [ext, Option.getD] at hF
  repeat with_reducible first | refine wp_seq ?_ | refine nThen ?_ | refine nBlk ?_ | refine wp_skip ?_ | refine wp_block ?_ | refine wp_exit ?_ | refine xThen ?_ | refine xHere ?_ | refine wp_ret ?_ | refine rThen ?_ | refine rBlk ?_
  refine cond_ty hF rfl (fun hlt => ?_) (fun hge => ?_)
  · have hlt : k < Ls.length := by have := of_decide_eq_true hlt; omega
    repeat with_reducible first | refine wp_seq ?_ | refine nThen ?_ | refine nBlk ?_ | refine wp_skip ?_ | refine wp_block ?_ | refine wp_exit ?_ | refine xThen ?_ | refine xHere ?_ | refine wp_ret ?_ | refine rThen ?_ | refine rBlk ?_
    refine' reg_all hF ?_ mixed (by kernel_rfl) ?_
    rotate_left
    · repeat (first
          | exact Line.nil
          | ((refine' Line.cons rfl (.run rfl rfl ?_) ?_)
             any_goals (first | exact cMove rfl rfl | exact cAssign rfl rfl | exact cLss rfl rfl rfl)
             rotate_left))
    intro a w4 hF hb hN
    have hBs := hB.size
    replace hB := hB.trans (hb.mono hB.size)
    dsimp only [ext, Option.getD] at hF
    repeat with_reducible first | refine wp_seq ?_ | refine nThen ?_ | refine nBlk ?_ | refine wp_skip ?_ | refine wp_block ?_ | refine wp_exit ?_ | refine xThen ?_ | refine xHere ?_ | refine wp_ret ?_ | refine rThen ?_ | refine rBlk ?_
    have hv4 := TL.below hv hB
    have hp4 := TP.below hp hB
    refine' reg_all hF ?_ mixed (by kernel_rfl) ?_
    rotate_left
    · repeat (first
          | exact Line.nil
          | ((refine' Line.cons rfl (.run rfl rfl ?_) ?_)
             any_goals (first | exact cMove rfl rfl | exact cAssign rfl rfl | exact cIdxTA (k := k) rfl (.l rfl hv4) rfl hlt | exact cLoadTab46 rfl (.t rfl) | exact cCallCT rfl rfl (.t rfl) he (fun W u hb hu => odd_ret sd (Ls.getD k []) s p W u hu (TP.below hp4 hb)) | exact cLss rfl rfl rfl)
             rotate_left))
    intro a w5 hF hb hN
    have hBs := hB.size
    replace hB := hB.trans (hb.mono hB.size)
    dsimp only [ext, Option.getD] at hF
    repeat with_reducible first | refine wp_seq ?_ | refine nThen ?_ | refine nBlk ?_ | refine wp_skip ?_ | refine wp_block ?_ | refine wp_exit ?_ | refine xThen ?_ | refine xHere ?_ | refine wp_ret ?_ | refine rThen ?_ | refine rBlk ?_
    refine cond_ty hF rfl (fun hc => ?_) (fun hc => ?_)
    · repeat with_reducible first | refine wp_seq ?_ | refine nThen ?_ | refine nBlk ?_ | refine wp_skip ?_ | refine wp_block ?_ | refine wp_exit ?_ | refine xThen ?_ | refine xHere ?_ | refine wp_ret ?_ | refine rThen ?_ | refine rBlk ?_
      refine' reg_all hF ?_ mixed (by kernel_rfl) ?_
      rotate_left
      · repeat (first
            | exact Line.nil
            | ((refine' Line.cons rfl (.run rfl rfl ?_) ?_)
               any_goals (first | exact cMove rfl rfl | exact cAssign rfl rfl | exact cLss rfl rfl rfl)
               rotate_left))
      intro a w6 hF hb hN
      have hBs := hB.size
      replace hB := hB.trans (hb.mono hB.size)
      dsimp only [ext, Option.getD] at hF
      repeat with_reducible first | refine wp_seq ?_ | refine nThen ?_ | refine nBlk ?_ | refine wp_skip ?_ | refine wp_block ?_ | refine wp_exit ?_ | refine xThen ?_ | refine xHere ?_ | refine wp_ret ?_ | refine rThen ?_ | refine rBlk ?_
      refine ret1 hF rfl rfl fun z hz => ?_
      refine ⟨z, rfl, ⟨(k : Int), hz, ?_⟩, hB⟩
      rw [allG_bad hlt (by simpa using hc)]
      exact decide_eq_true (by omega)
    · repeat with_reducible first | refine wp_seq ?_ | refine nThen ?_ | refine nBlk ?_ | refine wp_skip ?_ | refine wp_block ?_ | refine wp_exit ?_ | refine xThen ?_ | refine xHere ?_ | refine wp_ret ?_ | refine rThen ?_ | refine rBlk ?_
      refine' reg_all hF ?_ mixed (by kernel_rfl) ?_
      rotate_left
      · repeat (first
            | exact Line.nil
            | ((refine' Line.cons rfl (.run rfl rfl ?_) ?_)
               any_goals (first | exact cMove rfl rfl | exact cAssign rfl rfl | exact cAdd (r := ((k + 1 : Nat) : Int)) rfl rfl rfl (by omega) | exact cLss rfl rfl rfl)
               rotate_left))
      intro a w6 hF hb hN
      have hBs := hB.size
      replace hB := hB.trans (hb.mono hB.size)
      dsimp only [ext, Option.getD] at hF
      repeat with_reducible first | refine wp_seq ?_ | refine nThen ?_ | refine nBlk ?_ | refine wp_skip ?_ | refine wp_block ?_ | refine wp_exit ?_ | refine xThen ?_ | refine xHere ?_ | refine wp_ret ?_ | refine rThen ?_ | refine rBlk ?_
      refine ⟨m - 1, by omega, k + 1, by omega, hF.keep [0, 1, 7, 8], hB, fun j hj => ?_⟩
      by_cases hjk : j = k
      · subst hjk; simpa using hc
      · exact hlo j (by omega)
  · have hge : ¬ k < Ls.length := by have := of_decide_eq_false hge; omega
    repeat with_reducible first | refine wp_seq ?_ | refine nThen ?_ | refine nBlk ?_ | refine wp_skip ?_ | refine wp_block ?_ | refine wp_exit ?_ | refine xThen ?_ | refine xHere ?_ | refine wp_ret ?_ | refine rThen ?_ | refine rBlk ?_
    refine' reg_all hF ?_ mixed (by kernel_rfl) ?_
    rotate_left
    · repeat (first
          | exact Line.nil
          | ((refine' Line.cons rfl (.run rfl rfl ?_) ?_)
             any_goals (first | exact cMove rfl rfl | exact cAssign rfl rfl | exact cLss rfl rfl rfl)
             rotate_left))
    intro a w4 hF hb hN
    have hBs := hB.size
    replace hB := hB.trans (hb.mono hB.size)
    dsimp only [ext, Option.getD] at hF
    repeat with_reducible first | refine wp_seq ?_ | refine nThen ?_ | refine nBlk ?_ | refine wp_skip ?_ | refine wp_block ?_ | refine wp_exit ?_ | refine xThen ?_ | refine xHere ?_ | refine wp_ret ?_ | refine rThen ?_ | refine rBlk ?_
    refine ret1 hF rfl rfl fun z hz => ?_
    refine ⟨z, rfl, ⟨-1, hz, ?_⟩, hB⟩
    rw [allG_all fun j hj => hlo j (by omega)]
    rfl
set_option maxRecDepth 100000 in
theorem contT_any (sd : Nat) (Ls : List (List Cl)) (s p : Value) (w : World) (v : Value) (hv : (Ty.tabs 38 27 sd Ls).p w v) (hL : Ls.length ≤ 1000000) (hp : (Ty.at_ StT [.int .u64 (sd : Int), s]).p w p) : Ret Tryd.prog 31 #[v, oddFn p] w (Ty.ex (.bool (!allG Ls))) := by
  have he : Enters Tryd.prog 62 := fun args w => by kernel_rfl
  let TL := Ty.tabs 38 27 sd Ls
  let TP := Ty.at_ StT [.int .u64 (sd : Int), s]
  refine enter_ty 9 [Ty.ex v, Ty.ex (oddFn p)] Tryd.func31 rfl (by kernel_rfl) ⟨rfl, rfl, trivial⟩ fun a hF => ?_
  have hB := Below.refl w.heap.size w
  repeat with_reducible first | refine wp_seq ?_ | refine nThen ?_ | refine wp_ret ?_
  refine' reg_all hF ?_ mixed (by kernel_rfl) ?_
  rotate_left
  · repeat (first
        | exact Line.nil
        | ((refine' Line.cons rfl (.run rfl rfl ?_) ?_)
           any_goals (first | exact cMove rfl rfl | exact cAssign rfl rfl)
           rotate_left))
  intro a w1 hF hb hN
  have hBs := hB.size
  replace hB := hB.trans (hb.mono hB.size)
  dsimp only [ext, Option.getD] at hF
  repeat with_reducible first | refine wp_seq ?_ | refine nThen ?_ | refine wp_ret ?_
  have hv1 := TL.below hv hB
  have hp1 := TP.below hp hB
  refine' reg_all hF ?_ mixed (by kernel_rfl) ?_
  rotate_left
  · repeat (first
        | exact Line.nil
        | ((refine' Line.cons rfl (.run rfl rfl ?_) ?_)
           any_goals (first | exact cMove rfl rfl | exact cAssign rfl rfl | exact cCallX2 rfl rfl rfl he (fun W hb => idxT_any sd Ls s p W v (TL.below hv1 hb) hL (TP.below hp1 hb)) | exact cGeqIdx rfl rfl)
           rotate_left))
  intro a w2 hF hb hN
  have hBs := hB.size
  replace hB := hB.trans (hb.mono hB.size)
  dsimp only [ext, Option.getD] at hF
  repeat with_reducible first | refine wp_seq ?_ | refine nThen ?_ | refine wp_ret ?_
  refine ret1 hF rfl rfl fun z hz => ?_
  exact ⟨z, rfl, hz, hB⟩
set_option maxRecDepth 100000 in
/-- strata.Good -/
theorem sgood_ty (sd : Nat) (Ls : List (List Cl)) (hL : Ls.length ≤ 1000000) : Fn1 Tryd.prog 14 (Ty.stra 38 27 sd Ls) (Ty.ex (.bool (goodSt Ls))) := by
  refine ⟨fun args w => by kernel_rfl, fun w v ⟨s, hv, hs⟩ => ?_⟩
  subst hv
  have he : Enters Tryd.prog 31 := fun args w => by kernel_rfl
  let TL := Ty.tabs 38 27 sd Ls
  let TP := Ty.at_ StT [.int .u64 (sd : Int), s]
  rw [goodSt_is]
  refine enter_ty 16 [Ty.ex (.agg #[.int .u64 (sd : Int), s])] Tryd.func14 rfl (by kernel_rfl) ⟨rfl, trivial⟩ fun a hF => ?_
  have hB := Below.refl w.heap.size w
  repeat with_reducible first | refine wp_seq ?_ | refine nThen ?_ | refine wp_ret ?_
  refine' reg_all hF ?_ mixed (by kernel_rfl) ?_
  rotate_left
  · repeat (first
        | exact Line.nil
        | (refine' Line.cons rfl (.no rfl rfl rfl rfl rfl rfl) ?_; rotate_left)
        | ((first | refine' Line.cons rfl (.run rfl rfl ?_) ?_ | refine' Line.cons rfl (.yes rfl rfl rfl rfl ?_) ?_)
           any_goals (first | exact cMove rfl rfl | exact cAssign rfl rfl | exact cNot rfl rfl | exact cBoxTab rfl rfl | exact cPickT rfl rfl rfl | exact cPickF rfl rfl rfl | exact cEql rfl rfl rfl)
           rotate_left))
  intro a w1 hF hb hN
  have hBs := hB.size
  replace hB := hB.trans (hb.mono hB.size)
  dsimp only [ext, Option.getD] at hF
  repeat with_reducible first | refine wp_seq ?_ | refine nThen ?_ | refine wp_ret ?_
  obtain ⟨p, hp, hF⟩ := hF.open (s := 1) rfl
  have hp : TP.p w1 p := hp
  refine' reg_all hF ?_ mixed (by kernel_rfl) ?_
  rotate_left
  · repeat (first
        | exact Line.nil
        | (refine' Line.cons rfl (.no rfl rfl rfl rfl rfl rfl) ?_; rotate_left)
        | ((first | refine' Line.cons rfl (.run rfl rfl ?_) ?_ | refine' Line.cons rfl (.yes rfl rfl rfl rfl ?_) ?_)
           any_goals (first | exact cMove rfl rfl | exact cAssign rfl rfl | exact cNot rfl rfl | exact cMakeFunc rfl rfl | exact cPickT rfl rfl rfl | exact cPickF rfl rfl rfl | exact cEql rfl rfl rfl)
           rotate_left))
  intro a w2 hF hb hN
  have hBs := hB.size
  replace hB := hB.trans (hb.mono hB.size)
  dsimp only [ext, Option.getD] at hF
  repeat with_reducible first | refine wp_seq ?_ | refine nThen ?_ | refine wp_ret ?_
  replace hp := TP.below hp hb
  have hs2 := TL.below hs hB
  by_cases hl : Ls.length = 10
  · rw [decide_eq_true hl, Bool.true_and]
    refine' reg_all hF ?_ mixed (by kernel_rfl) ?_
    rotate_left
    · repeat (first
          | exact Line.nil
          | (refine' Line.cons rfl (.no rfl rfl rfl rfl rfl rfl) ?_; rotate_left)
          | ((first | refine' Line.cons rfl (.run rfl rfl ?_) ?_ | refine' Line.cons rfl (.yes rfl rfl rfl rfl ?_) ?_)
             any_goals (first | exact cMove rfl rfl | exact cAssign rfl rfl | exact cNot rfl rfl | exact cSt1 rfl (.l rfl hp) | exact cLoad1 (u := s) rfl (.t rfl) (pts_at _ _) Tryd.underlying29 rfl | exact cLenTA rfl (.l rfl hs2) | exact OpOk.b (c := true) (cEql rfl rfl rfl) (decide_eq_true (by omega)) | exact cCallX2 rfl rfl rfl he (fun W hb => contT_any sd Ls s p W s (TL.below hs2 hb) hL (TP.below hp hb)) | exact cPickT rfl rfl rfl | exact cPickF rfl rfl rfl | exact cEql rfl rfl rfl)
             rotate_left))
    intro a w3 hF hb hN
    have hBs := hB.size
    replace hB := hB.trans (hb.mono hB.size)
    dsimp only [ext, Option.getD] at hF
    repeat with_reducible first | refine wp_seq ?_ | refine nThen ?_ | refine wp_ret ?_
    refine ret1 hF rfl rfl fun z hz => ?_
    exact ⟨z, rfl, by rw [show z = .bool (!!allG Ls) from hz, Bool.not_not]; rfl, hB⟩
  · rw [decide_eq_false hl, Bool.false_and]
    refine' reg_all hF ?_ mixed (by kernel_rfl) ?_
    rotate_left
    · repeat (first
          | exact Line.nil
          | (refine' Line.cons rfl (.no rfl rfl rfl rfl rfl rfl) ?_; rotate_left)
          | ((first | refine' Line.cons rfl (.run rfl rfl ?_) ?_ | refine' Line.cons rfl (.yes rfl rfl rfl rfl ?_) ?_)
             any_goals (first | exact cMove rfl rfl | exact cAssign rfl rfl | exact cNot rfl rfl | exact cSt1 rfl (.l rfl hp) | exact cLoad1 (u := s) rfl (.t rfl) (pts_at _ _) Tryd.underlying29 rfl | exact cLenTA rfl (.l rfl hs2) | exact OpOk.b (c := false) (cEql rfl rfl rfl) (decide_eq_false (by omega)) | exact cPickT rfl rfl rfl | exact cPickF rfl rfl rfl | exact cEql rfl rfl rfl)
             rotate_left))
    intro a w3 hF hb hN
    have hBs := hB.size
    replace hB := hB.trans (hb.mono hB.size)
    dsimp only [ext, Option.getD] at hF
    repeat with_reducible first | refine wp_seq ?_ | refine nThen ?_ | refine wp_ret ?_
    refine ret1 hF rfl rfl fun z hz => ?_
    exact ⟨z, rfl, hz, hB⟩
end Go.Proofs.YtgmeagkolahkoaaDoor

/- Regions by types: a drawn region's store, for which an extract ahead of it in the text need not wait. -/
namespace Go.Proofs.YtgmeagkolahkoaaDoor
open Go.RowKit

theorem extract_wp {P : Program} {o : Oper} {x : Operand} {m : Nat} (ho : o.op = .extract x m) {a : Act} {w : World} {K : Act → World → Prop} {Q : Exit → Act → World → Prop} (h : o.wp P a w K Q) :
    ∃ v, K (a.put o.dst v) w ∧ ∀ (a' : Act) (w' : World) (K' : Act → World → Prop) (Q' : Exit → Act → World → Prop), a'.eval x = a.eval x → K' (a'.put o.dst v) w' → o.wp P a' w' K' Q' := by
  unfold Oper.wp execOp at h ⊢
  simp only [ho] at h ⊢
  cases hv : a.eval x with
  | tuple vs =>
    rw [hv] at h
    cases hi : vs[m]? with
    | some v =>
      simp only [Instr.extract, hi, Sem.run_bind, Sem.run_pure, Result.andThen_ok] at h
      refine ⟨v, h, fun a' w' K' Q' he hk => ?_⟩
      rw [he]
      simp only [Instr.extract, hi, Sem.run_bind, Sem.run_pure, Result.andThen_ok]
      exact hk
    | none =>
      simp only [Instr.extract, hi] at h
      exact h.elim
  | _ =>
    rw [hv] at h
    exact h.elim
/-- All of the first n but the q-th stand ahead of the n-th; all stand ahead of each later one. -/
def swapB (ops : Array Oper) (n q : Nat) : Bool := decide (q < n) && decide (n < ops.size) && ((List.range n).all fun i => i == q || Region.waitsFor .any ops n i) && ((List.range ops.size).all fun j => decide (j ≤ n) || (List.range j).all fun i => Region.waitsFor .any ops j i)
theorem swapB_at {ops : Array Oper} {n q : Nat} (h : swapB ops n q = true) : q < n ∧ n < ops.size ∧ (∀ i, i < n → i ≠ q → Region.waitsFor .any ops n i = true) ∧ ∀ j i, n < j → j < ops.size → i < j → Region.waitsFor .any ops j i = true := by
  unfold swapB at h
  simp only [Bool.and_eq_true, decide_eq_true_eq, List.all_eq_true, List.mem_range, Bool.or_eq_true, beq_iff_eq] at h
  obtain ⟨⟨⟨h1, h2⟩, h3⟩, h4⟩ := h
  refine ⟨h1, h2, fun i hi hne => (h3 i hi).resolve_left hne, fun j i hj hjs hij => ?_⟩
  rcases h4 j hjs with h | h
  · omega
  · exact h i hij
section
variable {P : Program} {w0 : World} {Γ : Ctx} {N : Nat} {Vs : List Ty} {a0 : Act}
theorem region_st {id : Nat} {Q : Exit → Act → World → Prop} {l : List Oper} {draw : Bool} (n q : Nat) {op oq : Oper} {dq m : Nat} {x sp sy : Operand} (hm : P.follows .mixedOrders = true) (hB : (regB l.toArray N n && swapB l.toArray n q) = true) (hsq : Region.seqB .any l.toArray (l.toArray.size - n) n (List.replicate n true ++ List.replicate (l.toArray.size - n) false).toArray = true) (hF : Fr N Γ a0 w0)
    (hop : l[n]? = some op) (hgp : op.guard = none) (hoq : l[q]? = some oq) (hgq : oq.guard = none) (hdq : oq.dst = some dq) (hox : oq.op = .extract x m)
    (hne : ∀ (a : Act) (v : Value), (a.put (some dq) v).eval sp = a.eval sp ∧ (a.put (some dq) v).eval sy = a.eval sy)
    (hL : Line P l.toArray w0 Γ (l.take n) Vs)
    (hQ : ∀ a w, Fr N (ext Γ (l.take n) Vs) a w → Below w0.heap.size w0 w → News (l.take n) a → ∃ w', (∀ (a' : Act), a'.eval sp = a.eval sp → a'.eval sy = a.eval sy → ∀ (K : Act → World → Prop) (Q' : Exit → Act → World → Prop), K a' w' → op.wp P a' w K Q') ∧ wpList P l.toArray Q (l.drop (n + 1)) a w') : (Code.region id l.toArray draw).wp P Q a0 w0 := by
  rw [Bool.and_eq_true] at hB
  obtain ⟨hB, hSw⟩ := hB
  obtain ⟨hqn, hns, hw1, hw2⟩ := swapB_at hSw
  have hsize : l.toArray.size = l.length := by simp
  have hnl : n ≤ l.toArray.size := by omega
  have hlen : n = (l.take n).length := by simp at hnl ⊢; omega
  have hli : ∀ i, i < n → (l.take n)[i]? = l.toArray[i]? := fun i hi => by simp [hi]
  have hback : ∀ i o, i < n → l.toArray[i]? = some o → ∀ e ∈ o.after, Region.binds .any e = true → e.on < i := fun i o hi ho e he hb => by
    obtain ⟨o', d, ho', _, _, h, _⟩ := regB_at hB hi
    obtain rfl : o = o' := Option.some.inj (ho.symm.trans ho')
    exact h e he hb
  have hdropn : l.drop n = op :: l.drop (n + 1) := by
    have h1 : n < l.length := by omega
    rw [List.drop_eq_getElem_cons h1]
    congr 1
    exact Option.some.inj ((List.getElem?_eq_getElem h1).symm.trans hop)
  have fin0 : ∀ (listed : Array Bool) a w, TInv N n (l.take n) Vs a0 w0 listed a w → (∀ i, i < n → listed.getD i false = true) → ∃ w', (∀ (a' : Act), a'.eval sp = a.eval sp → a'.eval sy = a.eval sy → ∀ (K : Act → World → Prop) (Q' : Exit → Act → World → Prop), K a' w' → op.wp P a' w K Q') ∧ wpList P l.toArray Q (l.drop (n + 1)) a w' := fun listed a w hI hall => by
    obtain ⟨h1, h2⟩ := hI.all hL hlen hF hall
    exact hQ a w h1 hI.below h2
  have fin : ∀ (listed : Array Bool) a w, TInv N n (l.take n) Vs a0 w0 listed a w → (∀ i, i < n → listed.getD i false = true) → wpList P l.toArray Q (l.drop n) a w := fun listed a w hI hall => by
    obtain ⟨w', h1, h2⟩ := fin0 listed a w hI hall
    rw [hdropn]
    refine wpList_plain hgp fun K hK => ?_
    exact h1 a rfl rfl K Q (hK _ _ h2)
  cases draw with
  | true =>
    have key : ∀ (f : Nat) (listed : Array Bool) (a : Act) (w : World), HeadInv .any l.toArray n listed → wanting n listed = f → TInv N n (l.take n) Vs a0 w0 listed a w → wpAny P .any l.toArray Q (f + (l.toArray.size - n)) listed a w := by
      intro f
      induction f with
      | zero =>
        intro listed a w hH h0 hI
        have hall := wanting_zero h0
        have hdl : (l.drop n).length = l.toArray.size - n := by simp
        have e := all_listed hH hall hnl
        have hseq : Region.seqB .any l.toArray (l.toArray.size - n) n listed = true := by rw [e]; exact hsq
        have := wpAny_of_seq (md := .any) (Q' := Q) (l.drop n) n listed a w (fun j => by simp [List.getElem?_drop]) (by rw [hdl]; exact hseq) (fin listed a w hI hall)
        rw [Nat.zero_add]
        rwa [hdl] at this
      | succ f ih =>
        intro listed a w hH h0 hI
        rw [show f + 1 + (l.toArray.size - n) = (f + (l.toArray.size - n)) + 1 by omega]
        have hex : ∃ i, i < n ∧ listed.getD i true = false := by
          refine Classical.byContradiction fun hno => ?_
          have hz : wanting n listed = 0 := by
            unfold wanting
            rw [List.length_eq_zero_iff, List.filter_eq_nil_iff]
            intro i hi
            have hi' := List.mem_range.1 hi
            have hl : i < listed.size := by rw [hH.size]; omega
            have h1 : ¬ listed.getD i true = false := fun h => hno ⟨i, hi', h⟩
            simp [Array.getD, hl] at h1 ⊢
            exact h1
          omega
        obtain ⟨i0, hi0, hun0⟩ := hex
        refine ⟨fun hr => ?_, fun i hi => ?_⟩
        · exfalso
          have := ready_head hback hnl hH.size hr i0 hi0
          rw [getD_both hun0] at this
          cases this
        · obtain ⟨h1, o, ho, h2⟩ := mem_ready.1 hi
          by_cases hin : i < n
          rotate_left
          · have hio := (Array.getElem?_eq_some_iff.1 ho).1
            have hui : listed.getD i false = false := getD_both h1
            have dep : ∀ k, Region.waitsFor .any l.toArray i k = true → listed.getD k false = true := fun k hk => by
              obtain ⟨oj, hoj, e, he, hb, hon⟩ := Region.waitsFor_spec hk
              obtain rfl : o = oj := Option.some.inj (ho.symm.trans hoj)
              have := h2 e he hb
              rwa [hon] at this
            have hien : i = n := by
              refine Classical.byContradiction fun hne' => ?_
              have := dep i0 (hw2 i i0 (by omega) hio (by omega))
              rw [getD_both hun0] at this
              cases this
            subst hien
            have hallq : ∀ k, k < i → k ≠ q → listed.getD k false = true := fun k hk hkq => dep k (hw1 k hk hkq)
            have hi0q : i0 = q := Classical.byContradiction fun h => by
              have := hallq i0 hi0 h
              rw [getD_both hun0] at this
              cases this
            subst hi0q
            have hoi : op = o := Option.some.inj ((by simpa using hop : l.toArray[i]? = some op).symm.trans ho)
            subst hoi
            have hoqa : l.toArray[i0]? = some oq := by simpa using hoq
            have hqdep : ∀ e ∈ oq.after, Region.binds .any e = true → listed.getD e.on false = true := fun e he hb => by
              have h5 := hback i0 oq hi0 hoqa e he hb
              exact hallq _ (by omega) (by omega)
            have hil0 : i0 < listed.size := by rw [hH.size]; omega
            have h3 := TInv.step hB hli hL hF hI hH.size hH.closed hi0 hoqa (getD_both hun0) hqdep (fun a' w' => TInv N i (l.take i) Vs a0 w0 (listed.setIfInBounds i0 true) a' w') Q (fun a' w' hI' => hI')
            rw [if_pos (by simp [Region.wanted, hgq])] at h3
            obtain ⟨v, h4, h5⟩ := extract_wp hox h3
            rw [hdq] at h4
            have hallS : ∀ k, k < i → (listed.setIfInBounds i0 true).getD k false = true := fun k hk => by
              by_cases hkq : i0 = k
              · subst hkq; simp [Array.getD, hil0]
              · rw [getD_set_ne false hkq]; exact hallq k hk (fun e => hkq e.symm)
            obtain ⟨w', h6, h7⟩ := fin0 _ _ _ h4 hallS
            unfold wpOp
            simp only [ho]
            rw [if_pos (by simp [Region.wanted, hgp])]
            refine .inl (h6 a (hne a v).1.symm (hne a v).2.symm _ _ ?_)
            have hsz : f + (l.toArray.size - i) = (l.toArray.size - i - 1) + 1 := by
              have hf0 : f = 0 := by
                have h9 := wanting_set hi0 hil0 (getD_both hun0)
                have hz : wanting i (listed.setIfInBounds i0 true) = 0 := by
                  unfold wanting
                  rw [List.length_eq_zero_iff, List.filter_eq_nil_iff]
                  intro k hk
                  have h8 := hallS k (List.mem_range.1 hk)
                  intro h10
                  simp only [Bool.not_eq_true'] at h10
                  rw [h10] at h8
                  cases h8
                omega
              omega
            rw [hsz]
            have hready : i0 ∈ Region.ready .any l.toArray (listed.setIfInBounds i true) := mem_ready.2 ⟨by rw [getD_set_ne true (by omega)]; exact hun0, oq, hoqa, fun e he hb => by
              have h8 := hback i0 oq hi0 hoqa e he hb
              rw [getD_set_ne false (by omega)]
              exact hqdep e he hb⟩
            refine ⟨fun hr => (by rw [hr] at hready; cases hready), fun j hj => ?_⟩
            obtain ⟨g1, oj, hoj, g2⟩ := mem_ready.1 hj
            have hjlt := (Array.getElem?_eq_some_iff.1 hoj).1
            have hjq : j = i0 := Classical.byContradiction fun hjn => by
              by_cases hji : j = i
              · subst hji
                rw [show (listed.setIfInBounds j true).getD j true = true by simp [Array.getD]] at g1
                cases g1
              · rw [getD_set_ne true (fun e => hji e.symm)] at g1
                by_cases hjl : j < i
                · have := hallq j hjl hjn
                  rw [getD_both g1] at this
                  cases this
                · have hk := hw2 j i0 (by omega) hjlt (by omega)
                  obtain ⟨oj', hoj', e, he, hb, hon⟩ := Region.waitsFor_spec hk
                  obtain rfl : oj = oj' := Option.some.inj (hoj.symm.trans hoj')
                  have := g2 e he hb
                  rw [hon, getD_set_ne false (by omega), getD_both hun0] at this
                  cases this
            subst hjq
            unfold wpOp
            simp only [hoqa]
            rw [if_pos (by simp [Region.wanted, hgq])]
            refine .inl (h5 a w' _ _ rfl ?_)
            rw [hdq]
            have e := all_listed (hH.set (mem_ready.2 ⟨hun0, oq, hoqa, hqdep⟩) hi0) hallS hnl
            have hsz3 : l.toArray.size - i = (l.toArray.size - i - 1) + 1 := by omega
            have hsq2 := hsq
            rw [hsz3] at hsq2
            simp only [Region.seqB, Bool.and_eq_true] at hsq2
            have hdl : (l.drop (i + 1)).length = l.toArray.size - i - 1 := by simp; omega
            have h10 := wpAny_of_seq (md := .any) (Q' := Q) (l.drop (i + 1)) (i + 1) ((listed.setIfInBounds i true).setIfInBounds j true) (a.put (some dq) v) w' (fun k => by simp [List.getElem?_drop]) (by
              rw [hdl, Array.setIfInBounds_comm _ _ (by omega), e, hsz3]
              exact hsq2.2) h7
            rwa [hdl] at h10
          have hil : i < listed.size := by rw [hH.size]; omega
          have h3 := TInv.step hB hli hL hF hI hH.size hH.closed hin ho (getD_both h1) h2 (wpAny P .any l.toArray Q (f + (l.toArray.size - n)) (listed.setIfInBounds i true)) Q (fun a' w' hI' => by
            refine ih _ a' w' (hH.set hi hin) ?_ hI'
            have := wanting_set hin hil (getD_both h1)
            omega)
          unfold wpOp
          simp only [ho]
          split
          · rename_i hw
            rw [if_pos hw] at h3
            exact .inl h3
          · rename_i hw
            rw [if_neg hw] at h3
            exact h3
    have inv0 : HeadInv .any l.toArray n (Array.replicate l.toArray.size false) :=
      ⟨by simp, fun j oj _ hl => (by rw [getD_replicate_false] at hl; cases hl), fun t _ ht => getD_in (by simpa using ht) (getD_replicate_false _ _)⟩
    have h0 : wanting n (Array.replicate l.toArray.size false) = n := by
      unfold wanting
      rw [List.filter_eq_self.2 (fun i _ => by rw [getD_replicate_false]; rfl), List.length_range]
    refine wp_region_any hm ?_
    have := key n _ a0 w0.drew inv0 h0 (TInv.start hF (Below.refl _ _).drew _)
    rw [show n + (l.toArray.size - n) = l.toArray.size by omega] at this
    exact this
  | false =>
    have key : ∀ (f k : Nat) (a : Act) (w : World), k + f = n → TInv N n (l.take n) Vs a0 w0 ((List.replicate k true ++ List.replicate (l.toArray.size - k) false).toArray) a w → wpList P l.toArray Q (l.drop k) a w := by
      intro f
      induction f with
      | zero =>
        intro k a w hk hI
        obtain rfl : k = n := by omega
        refine fin _ a w hI (fun i hi => ?_)
        simp [Array.getD, hi]
        omega
      | succ f ih =>
        intro k a w hk hI
        have hkn : k < n := by omega
        have hkl : k < l.length := by omega
        have hdrop : l.drop k = l[k] :: l.drop (k + 1) := by rw [List.drop_eq_getElem_cons hkl]
        have getD_k : ∀ m j, m ≤ l.toArray.size → (List.replicate m true ++ List.replicate (l.toArray.size - m) false).toArray.getD j false = decide (j < m) := fun m j hm => by
          by_cases hj : j < m
          · simp [Array.getD, hj]; omega
          · simp [Array.getD, List.getElem_append, hj]
        have ho : l.toArray[k]? = some l[k] := by simp [hkl]
        have hset : (List.replicate k true ++ List.replicate (l.toArray.size - k) false).toArray.setIfInBounds k true = (List.replicate (k + 1) true ++ List.replicate (l.toArray.size - (k + 1)) false).toArray := by
          apply Array.ext_getElem?
          intro j
          rw [show l.toArray.size - k = (l.toArray.size - (k + 1)) + 1 by omega, List.replicate_succ, List.replicate_succ']
          simp only [List.setIfInBounds_toArray, List.getElem?_toArray, List.append_assoc, List.singleton_append]
          rw [List.set_append_right _ _ (by simp)]
          simp
        rw [hdrop]
        refine wpList_step fun K hK => ?_
        refine TInv.step hB hli hL hF hI (by simp; omega) (fun j oj hj hl e he hb => ?_) hkn ho (by rw [getD_k k k (by omega)]; simp) (fun e he hb => ?_) K Q (fun a' w' hI' => hK a' w' (ih (k + 1) a' w' (by omega) (by rw [← hset]; exact hI')))
        · rw [getD_k k _ (by omega)] at hl ⊢
          simp only [decide_eq_true_eq] at hl ⊢
          have := hback j oj (by omega) hj e he hb
          omega
        · rw [getD_k k _ (by omega)]
          simp only [decide_eq_true_eq]
          exact hback k _ hkn ho e he hb
    refine wp_region_lit ?_
    have := key n 0 a0 w0 (by omega) (by
      have e : (List.replicate 0 true ++ List.replicate (l.toArray.size - 0) false).toArray = Array.replicate l.toArray.size false := by simp
      rw [e]
      exact TInv.start hF (Below.refl _ _) _)
    simpa using this
/-- The store's work. -/
theorem store_ev {N : Nat} {Γ : Ctx} {a : Act} {w : World} {o : Oper} {ty t : TypeId} {p y g : Nat} {cs : Array Value} {v : Value} {Δ : Ctx} (hF : Fr N Γ a w) (hd : o.dst = none) (ho : o.op = .store ty (.tmp p) (.tmp y)) (hp : look Γ p = some (Ty.ex (.pointer (some ⟨g, 0, none⟩)))) (hy : a.eval (.tmp y) = v)
    (hB : Blk w g t cs) (hcs : v.cells.size = cs.size) (hi : (P.info? ty).map (·.size) = some v.cells.size) (h1 : v.cells.all (·.oneCell') = true) (hΔ : Fr N Δ a w) (hfree : Δ.free t = true) :
    ∃ w', (∀ (a' : Act), a'.eval (.tmp p) = a.eval (.tmp p) → a'.eval (.tmp y) = a.eval (.tmp y) → ∀ (K : Act → World → Prop) (Q' : Exit → Act → World → Prop), K a' w' → o.wp P a' w K Q') ∧ Fr N Δ a w' ∧ Blk w' g t v.cells ∧ Keeps [g] w w' := by
  have h3 : Keeps [g] w (w.setCells g 0 v.cells.toList) := Keeps.setCells (.inl (by simp)) _ _ (Keeps.refl _ _)
  refine ⟨w.setCells g 0 v.cells.toList, fun a' e1 e2 K Q' hk => ?_, ?_, ?_, h3⟩
  · unfold Oper.wp execOp
    simp only [ho, e1, e2, hF.getEx hp, hy, Instr.storeAt, Instr.sureAddr, Sem.run_bind, Sem.run_pure, Result.andThen_ok, storeVar_cells ty _ v, run_storeVar_mid w g 0 ty v.cells (hB.there (by omega)) hi h1]
    show K (a'.put o.dst _) _
    rw [hd]
    exact hk
  · refine hΔ.free h3 (fun b hb _ => ?_) hfree
    simp only [List.mem_singleton] at hb
    subst hb
    exact ⟨cs, (0, 0), hB⟩
  · have h2 := hB.setCells v.cells.toList 0
    rw [splice_all _ _ (by simpa using hcs)] at h2
    simpa using h2
theorem store_st {N : Nat} {Γ : Ctx} {a : Act} {w : World} {o : Oper} {ty t : TypeId} {p y g : Nat} {cs : Array Value} {v : Value} {Δ : Ctx} {R : World → Prop} (hF : Fr N Γ a w) (hd : o.dst = none) (ho : o.op = .store ty (.tmp p) (.tmp y)) (hp : look Γ p = some (Ty.ex (.pointer (some ⟨g, 0, none⟩)))) (hy : a.eval (.tmp y) = v)
    (hB : Blk w g t cs) (hcs : v.cells.size = cs.size) (hi : (P.info? ty).map (·.size) = some v.cells.size) (h1 : v.cells.all (·.oneCell') = true) (hΔ : Fr N Δ a w) (hfree : Δ.free t = true) (hq : ∀ w', Fr N Δ a w' → Blk w' g t v.cells → Keeps [g] w w' → R w') :
    ∃ w', (∀ (a' : Act), a'.eval (.tmp p) = a.eval (.tmp p) → a'.eval (.tmp y) = a.eval (.tmp y) → ∀ (K : Act → World → Prop) (Q' : Exit → Act → World → Prop), K a' w' → o.wp P a' w K Q') ∧ R w' := by
  obtain ⟨w', h4, h5, h6, h7⟩ := store_ev (P := P) hF hd ho hp hy hB hcs hi h1 hΔ hfree
  exact ⟨w', h4, hq w' h5 h6 h7⟩
theorem put_far {d s : Nat} (h : Nat.beq d s = false) (a : Act) (v : Value) : (a.put (some d) v).eval (.tmp s) = a.eval (.tmp s) := by
  have hne : d ≠ s := fun e => by subst e; simp at h
  simp only [Act.eval, Act.put, Array.getD_eq_getD_getElem?]
  rw [Array.getElem?_setIfInBounds_ne hne]
end
end Go.Proofs.YtgmeagkolahkoaaDoor

/- Strata by types: Differ. -/
namespace Go.Proofs.YtgmeagkolahkoaaDoor
open Go.RowKit

set_option maxRecDepth 100000 in
theorem differ_bad (sa sb : Nat) (A B : List (List Cl)) (hA : A.length ≤ 1000000) (hBl : B.length ≤ 1000000) (h : (goodSt A && goodSt B && decide (sa = sb)) = false) : Fn2 Tryd.prog 11 (Ty.stra 38 27 sa A) (Ty.stra 38 27 sb B) (Ty.tup [Ty.ex (.int .i64 0), Ty.ex (.int .i64 1)]) := by
  refine ⟨fun args w => by kernel_rfl, fun w v u ⟨s, hv, hs⟩ ⟨s2, hu, hs2⟩ => ?_⟩
  subst hv hu
  have gA := sgood_ty sa A hA
  have gB := sgood_ty sb B hBl
  let TA := Ty.tabs 38 27 sa A
  let TB := Ty.tabs 38 27 sb B
  refine enter_ty 69 [Ty.ex (.agg #[.int .u64 (sa : Int), s]), Ty.ex (.agg #[.int .u64 (sb : Int), s2])] Tryd.func11 rfl (by kernel_rfl) ⟨rfl, rfl, trivial⟩ fun a hF => ?_
  have hB := Below.refl w.heap.size w
  repeat with_reducible first | refine wp_seq ?_ | refine nThen ?_ | refine wp_ret ?_ | refine rThen ?_
  refine' reg_all hF ?_ mixed (by kernel_rfl) ?_
  rotate_left
  · repeat (first
        | exact Line.nil
        | (refine' Line.cons rfl (.no rfl rfl rfl rfl rfl rfl) ?_; rotate_left)
        | ((first | refine' Line.cons rfl (.run rfl rfl ?_) ?_ | refine' Line.cons rfl (.yes rfl rfl rfl rfl ?_) ?_)
           any_goals (first | exact cMove rfl rfl | exact cAssign rfl rfl | exact cNot rfl rfl | exact cBoxTab rfl rfl | exact cPickT rfl rfl rfl | exact cPickF rfl rfl rfl | exact cNeq rfl rfl rfl)
           rotate_left))
  intro a w1 hF hb hN
  have hBs := hB.size
  replace hB := hB.trans (hb.mono hB.size)
  dsimp only [ext, Option.getD] at hF
  repeat with_reducible first | refine wp_seq ?_ | refine nThen ?_ | refine wp_ret ?_ | refine rThen ?_
  replace hF := hF.as hF (s := 2) (σ := Ty.straP StT 38 27 sa A) rfl (fun v hv => ⟨s, hv, TA.below hs hB⟩)
  replace hF := hF.as hF (s := 3) (σ := Ty.straP StT 38 27 sb B) rfl (fun v hv => ⟨s2, hv, TB.below hs2 hB⟩)
  refine wp_mono (Q := fun e a w' => e = .normal ∧ Fr 69 [(26, Ty.ex (.bool true))] a w' ∧ Below w.heap.size w w') ?_ ?_
  · cases g1 : goodSt A with
    | false =>
      rw [g1] at gA
      refine' reg_all hF ?_ mixed (by kernel_rfl) ?_
      rotate_left
      · repeat (first
            | exact Line.nil
            | (refine' Line.cons rfl (.no rfl rfl rfl rfl rfl rfl) ?_; rotate_left)
            | ((first | refine' Line.cons rfl (.run rfl rfl ?_) ?_ | refine' Line.cons rfl (.yes rfl rfl rfl rfl ?_) ?_)
               any_goals (first | exact cMove rfl rfl | exact cAssign rfl rfl | exact cNot rfl rfl | exact cLoadStA rfl (.t rfl) | exact cCall1 rfl rfl gA | exact cPickT rfl rfl rfl | exact cPickF rfl rfl rfl | exact cNeq rfl rfl rfl)
               rotate_left))
      intro a w2 hF hb hN
      have hBs := hB.size
      replace hB := hB.trans (hb.mono hB.size)
      dsimp only [ext, Option.getD] at hF
      repeat with_reducible first | refine wp_seq ?_ | refine nThen ?_ | refine wp_ret ?_ | refine rThen ?_
      exact ⟨rfl, hF.keep [26], hB⟩
    | true =>
    cases g2 : goodSt B with
    | false =>
      rw [g1] at gA
      rw [g2] at gB
      refine' reg_all hF ?_ mixed (by kernel_rfl) ?_
      rotate_left
      · repeat (first
            | exact Line.nil
            | (refine' Line.cons rfl (.no rfl rfl rfl rfl rfl rfl) ?_; rotate_left)
            | ((first | refine' Line.cons rfl (.run rfl rfl ?_) ?_ | refine' Line.cons rfl (.yes rfl rfl rfl rfl ?_) ?_)
               any_goals (first | exact cMove rfl rfl | exact cAssign rfl rfl | exact cNot rfl rfl | exact cLoadStA rfl (.t rfl) | exact cCall1 rfl rfl gA | exact cCall1 rfl rfl gB | exact cPickT rfl rfl rfl | exact cPickF rfl rfl rfl | exact cNeq rfl rfl rfl)
               rotate_left))
      intro a w2 hF hb hN
      have hBs := hB.size
      replace hB := hB.trans (hb.mono hB.size)
      dsimp only [ext, Option.getD] at hF
      repeat with_reducible first | refine wp_seq ?_ | refine nThen ?_ | refine wp_ret ?_ | refine rThen ?_
      exact ⟨rfl, hF.keep [26], hB⟩
    | true =>
      rw [g1] at gA
      rw [g2] at gB
      rw [g1, g2] at h
      have hne : ¬ sa = sb := of_decide_eq_false (by simpa using h)
      refine' reg_all hF ?_ mixed (by kernel_rfl) ?_
      rotate_left
      · repeat (first
            | exact Line.nil
            | (refine' Line.cons rfl (.no rfl rfl rfl rfl rfl rfl) ?_; rotate_left)
            | ((first | refine' Line.cons rfl (.run rfl rfl ?_) ?_ | refine' Line.cons rfl (.yes rfl rfl rfl rfl ?_) ?_)
               any_goals (first | exact cMove rfl rfl | exact cAssign rfl rfl | exact cNot rfl rfl | exact cLoadStA rfl (.t rfl) | exact cCall1 rfl rfl gA | exact cCall1 rfl rfl gB | exact cStraSA rfl (.t rfl) | exact cLoadU64 rfl (.t rfl) | exact OpOk.b (c := true) (cNeq rfl rfl rfl) (by simp; omega) | exact cPickT rfl rfl rfl | exact cPickF rfl rfl rfl | exact cNeq rfl rfl rfl)
               rotate_left))
      intro a w2 hF hb hN
      have hBs := hB.size
      replace hB := hB.trans (hb.mono hB.size)
      dsimp only [ext, Option.getD] at hF
      repeat with_reducible first | refine wp_seq ?_ | refine nThen ?_ | refine wp_ret ?_ | refine rThen ?_
      exact ⟨rfl, hF.keep [26], hB⟩
  clear hF hB
  rintro e a w2 ⟨rfl, hF, hB⟩
  repeat with_reducible first | refine wp_seq ?_ | refine nThen ?_ | refine wp_ret ?_ | refine rThen ?_
  refine cond_t hF rfl ?_
  repeat with_reducible first | refine wp_seq ?_ | refine nThen ?_ | refine wp_ret ?_ | refine rThen ?_
  refine' reg_all hF ?_ mixed (by kernel_rfl) ?_
  rotate_left
  · repeat (first
        | exact Line.nil
        | (refine' Line.cons rfl (.no rfl rfl rfl rfl rfl rfl) ?_; rotate_left)
        | ((first | refine' Line.cons rfl (.run rfl rfl ?_) ?_ | refine' Line.cons rfl (.yes rfl rfl rfl rfl ?_) ?_)
           any_goals (first | exact cMove rfl rfl | exact cAssign rfl rfl | exact cNot rfl rfl | exact cPickT rfl rfl rfl | exact cPickF rfl rfl rfl | exact cNeq rfl rfl rfl)
           rotate_left))
  intro a w3 hF hb hN
  have hBs := hB.size
  replace hB := hB.trans (hb.mono hB.size)
  dsimp only [ext, Option.getD] at hF
  repeat with_reducible first | refine wp_seq ?_ | refine nThen ?_ | refine wp_ret ?_ | refine rThen ?_
  refine ret2 hF rfl rfl rfl fun a b ha hb => ?_
  exact ⟨_, rfl, ⟨[a, b], rfl, ha, hb, trivial⟩, hB⟩
set_option maxRecDepth 100000 in
set_option maxHeartbeats 4000000 in
theorem differ_ty (sd : Nat) (A B : List (List Cl)) (hsd : sd < 18446744073709551616) (g1 : goodSt A = true) (g2 : goodSt B = true) : Fn2 Tryd.prog 11 (Ty.stra 38 27 sd A) (Ty.stra 38 27 sd B) (Ty.tup [Ty.ex (.int .i64 (difGo sd A B 10 0 : Nat)), Ty.ex (.int .i64 0)]) := by
  refine ⟨fun args w => by kernel_rfl, fun w v u ⟨s, hv, hs⟩ ⟨s2, hu, hs2⟩ => ?_⟩
  subst hv hu
  obtain ⟨lA, hA⟩ := goodSt_get g1
  obtain ⟨lB, hBn⟩ := goodSt_get g2
  have gA := sgood_ty sd A (by omega)
  have gB := sgood_ty sd B (by omega)
  rw [g1] at gA
  rw [g2] at gB
  let TA := Ty.tabs 38 27 sd A
  let TB := Ty.tabs 38 27 sd B
  let PA := Ty.straP StT 38 27 sd A
  let PB := Ty.straP StT 38 27 sd B
  refine enter_ty 69 [Ty.ex (.agg #[.int .u64 (sd : Int), s]), Ty.ex (.agg #[.int .u64 (sd : Int), s2])] Tryd.func11 rfl (by kernel_rfl) ⟨rfl, rfl, trivial⟩ fun a hF => ?_
  have hB := Below.refl w.heap.size w
  repeat with_reducible first | refine wp_seq ?_ | refine nThen ?_ | refine nBlk ?_ | refine wp_skip ?_ | refine wp_block ?_ | refine wp_exit ?_ | refine xThen ?_ | refine xHere ?_ | refine wp_ret ?_ | refine rThen ?_ | refine rBlk ?_
  refine' reg_all hF ?_ mixed (by kernel_rfl) ?_
  rotate_left
  · repeat (first
        | exact Line.nil
        | ((first | refine' Line.cons rfl (.run rfl rfl ?_) ?_ | refine' Line.cons rfl (.yes rfl rfl rfl rfl ?_) ?_)
           any_goals (first | exact cMove rfl rfl | exact cAssign rfl rfl | exact cNot rfl rfl | exact cBoxTab rfl rfl | exact cPickF rfl rfl rfl | exact cGeq rfl rfl rfl | exact cEql rfl rfl rfl | exact cNeq rfl rfl rfl | exact cExtract rfl rfl rfl)
           rotate_left))
  intro a w1 hF hb hN
  have hBs := hB.size
  replace hB := hB.trans (hb.mono hB.size)
  dsimp only [ext, Option.getD] at hF
  repeat with_reducible first | refine wp_seq ?_ | refine nThen ?_ | refine nBlk ?_ | refine wp_skip ?_ | refine wp_block ?_ | refine wp_exit ?_ | refine xThen ?_ | refine xHere ?_ | refine wp_ret ?_ | refine rThen ?_ | refine rBlk ?_
  obtain ⟨p2, hp2, hF⟩ := hF.open (s := 2) rfl
  obtain ⟨p3, hp3, hF⟩ := hF.open (s := 3) rfl
  have hp2 : PA.p w1 p2 := ⟨s, hp2, TA.below hs hB⟩
  have hp3 : PB.p w1 p3 := ⟨s2, hp3, TB.below hs2 hB⟩
  have hB1 := hB
  replace hB := Below.refl w1.heap.size w1
  refine' reg_all hF ?_ mixed (by kernel_rfl) ?_
  rotate_left
  · repeat (first
        | exact Line.nil
        | ((first | refine' Line.cons rfl (.run rfl rfl ?_) ?_ | refine' Line.cons rfl (.yes rfl rfl rfl rfl ?_) ?_)
           any_goals (first | exact cMove rfl rfl | exact cAssign rfl rfl | exact cNot rfl rfl | exact cLoadStA rfl (.l rfl hp2) | exact cLoadStA rfl (.l rfl hp3) | exact cCall1 rfl rfl gA | exact cCall1 rfl rfl gB | exact cStraSA rfl (.l rfl hp2) | exact cStraSA rfl (.l rfl hp3) | exact cLoadU64 rfl (.t rfl) | exact OpOk.b (c := false) (cNeq rfl rfl rfl) (by simp) | exact cPickF rfl rfl rfl | exact cGeq rfl rfl rfl | exact cEql rfl rfl rfl | exact cNeq rfl rfl rfl | exact cExtract rfl rfl rfl)
           rotate_left))
  intro a w2 hF hb hN
  have hBs := hB.size
  replace hB := hB.trans (hb.mono hB.size)
  dsimp only [ext, Option.getD] at hF
  repeat with_reducible first | refine wp_seq ?_ | refine nThen ?_ | refine nBlk ?_ | refine wp_skip ?_ | refine wp_block ?_ | refine wp_exit ?_ | refine xThen ?_ | refine xHere ?_ | refine wp_ret ?_ | refine rThen ?_ | refine rBlk ?_
  refine cond_f hF rfl ?_
  repeat with_reducible first | refine wp_seq ?_ | refine nThen ?_ | refine nBlk ?_ | refine wp_skip ?_ | refine wp_block ?_ | refine wp_exit ?_ | refine xThen ?_ | refine xHere ?_ | refine wp_ret ?_ | refine rThen ?_ | refine rBlk ?_
  refine' reg_all hF ?_ mixed (by kernel_rfl) ?_
  rotate_left
  · repeat (first
        | exact Line.nil
        | ((first | refine' Line.cons rfl (.run rfl rfl ?_) ?_ | refine' Line.cons rfl (.yes rfl rfl rfl rfl ?_) ?_)
           any_goals (first | exact cMove rfl rfl | exact cAssign rfl rfl | exact cNot rfl rfl | exact cPickF rfl rfl rfl | exact cGeq rfl rfl rfl | exact cEql rfl rfl rfl | exact cNeq rfl rfl rfl | exact cExtract rfl rfl rfl)
           rotate_left))
  intro a w3 hF hb hN
  have hBs := hB.size
  replace hB := hB.trans (hb.mono hB.size)
  dsimp only [ext, Option.getD] at hF
  repeat with_reducible first | refine wp_seq ?_ | refine nThen ?_ | refine nBlk ?_ | refine wp_skip ?_ | refine wp_block ?_ | refine wp_exit ?_ | refine xThen ?_ | refine xHere ?_ | refine wp_ret ?_ | refine rThen ?_ | refine rBlk ?_
  refine' reg_all hF ?_ mixed (by kernel_rfl) ?_
  rotate_left
  · repeat (first
        | exact Line.nil
        | ((first | refine' Line.cons rfl (.run rfl rfl ?_) ?_ | refine' Line.cons rfl (.yes rfl rfl rfl rfl ?_) ?_)
           any_goals (first | exact cMove rfl rfl | exact cAssign rfl rfl | exact cNot rfl rfl | exact cPickF rfl rfl rfl | exact cGeq rfl rfl rfl | exact cEql rfl rfl rfl | exact cNeq rfl rfl rfl | exact cExtract rfl rfl rfl)
           rotate_left))
  intro a w4 hF hb hN
  have hBs := hB.size
  replace hB := hB.trans (hb.mono hB.size)
  dsimp only [ext, Option.getD] at hF
  repeat with_reducible first | refine wp_seq ?_ | refine nThen ?_ | refine nBlk ?_ | refine wp_skip ?_ | refine wp_block ?_ | refine wp_exit ?_ | refine xThen ?_ | refine xHere ?_ | refine wp_ret ?_ | refine rThen ?_ | refine rBlk ?_
  refine loop_ty (fun k a wr => ∃ n : Nat, k ≤ 10 ∧ n + 2050 * k ≤ 20500 ∧ difGo sd A B k n = difGo sd A B 10 0 ∧ Fr 69 [(2, Ty.ex p2), (3, Ty.ex p3), (6, Ty.ex (.int .i64 (n : Int))), (7, Ty.ex (.int .i64 ((k : Int) - 1)))] a wr ∧ Below w1.heap.size w1 wr) 10 ?_ ?_
  · exact ⟨0, by omega, by omega, rfl, hF.keep [2, 3, 6, 7], hB⟩
  clear hF hB
  rintro k a wr ⟨n, hk, hn, hgo, hF, hB⟩
  repeat with_reducible first | refine wp_seq ?_ | refine nThen ?_ | refine nBlk ?_ | refine wp_skip ?_ | refine wp_block ?_ | refine wp_exit ?_ | refine xThen ?_ | refine xHere ?_ | refine wp_ret ?_ | refine rThen ?_ | refine rBlk ?_
  refine' reg_all hF ?_ mixed (by kernel_rfl) ?_
  rotate_left
  · repeat (first
        | exact Line.nil
        | ((first | refine' Line.cons rfl (.run rfl rfl ?_) ?_ | refine' Line.cons rfl (.yes rfl rfl rfl rfl ?_) ?_)
           any_goals (first | exact cMove rfl rfl | exact cAssign rfl rfl | exact cNot rfl rfl | exact cPickF rfl rfl rfl | exact cGeq rfl rfl rfl | exact cEql rfl rfl rfl | exact cNeq rfl rfl rfl | exact cExtract rfl rfl rfl)
           rotate_left))
  intro a w5 hF hb hN
  have hBs := hB.size
  replace hB := hB.trans (hb.mono hB.size)
  dsimp only [ext, Option.getD] at hF
  repeat with_reducible first | refine wp_seq ?_ | refine nThen ?_ | refine nBlk ?_ | refine wp_skip ?_ | refine wp_block ?_ | refine wp_exit ?_ | refine xThen ?_ | refine xHere ?_ | refine wp_ret ?_ | refine rThen ?_ | refine rBlk ?_
  rcases k with _ | i
  · refine cond_ty hF rfl (fun h => absurd (of_decide_eq_true h) (by omega)) fun _ => ?_
    rw [← hgo]
    repeat with_reducible first | refine wp_seq ?_ | refine nThen ?_ | refine nBlk ?_ | refine wp_skip ?_ | refine wp_block ?_ | refine wp_exit ?_ | refine xThen ?_ | refine xHere ?_ | refine wp_ret ?_ | refine rThen ?_ | refine rBlk ?_
    refine' reg_all hF ?_ mixed (by kernel_rfl) ?_
    rotate_left
    · repeat (first
          | exact Line.nil
          | ((first | refine' Line.cons rfl (.run rfl rfl ?_) ?_ | refine' Line.cons rfl (.yes rfl rfl rfl rfl ?_) ?_)
             any_goals (first | exact cMove rfl rfl | exact cAssign rfl rfl | exact cNot rfl rfl | exact cPickF rfl rfl rfl | exact cGeq rfl rfl rfl | exact cEql rfl rfl rfl | exact cNeq rfl rfl rfl | exact cExtract rfl rfl rfl)
             rotate_left))
    intro a w6 hF hb hN
    have hBs := hB.size
    replace hB := hB.trans (hb.mono hB.size)
    dsimp only [ext, Option.getD] at hF
    repeat with_reducible first | refine wp_seq ?_ | refine nThen ?_ | refine nBlk ?_ | refine wp_skip ?_ | refine wp_block ?_ | refine wp_exit ?_ | refine xThen ?_ | refine xHere ?_ | refine wp_ret ?_ | refine rThen ?_ | refine rBlk ?_
    refine ret2 hF rfl rfl rfl fun a b ha hb => ?_
    exact ⟨_, rfl, ⟨[a, b], rfl, ha, hb, trivial⟩, hB1.trans (hB.mono hB1.size)⟩
  refine cond_ty hF rfl (fun _ => ?_) fun h => absurd (of_decide_eq_false h) (by omega)
  rw [show ((i + 1 : Nat) : Int) - 1 = (i : Int) by omega] at hF
  repeat with_reducible first | refine wp_seq ?_ | refine nThen ?_ | refine nBlk ?_ | refine wp_skip ?_ | refine wp_block ?_ | refine wp_exit ?_ | refine xThen ?_ | refine xHere ?_ | refine wp_ret ?_ | refine rThen ?_ | refine rBlk ?_
  have hq2 := PA.below hp2 hB
  have hq3 := PB.below hp3 hB
  have m1 := tminus_ty sd sd (A.getD i []) (B.getD i [])
  have hg : goodN ((A.getD i []).length : Int) = true := by rw [hA i (by omega)]; exact g24
  have k1 := minOk_good (s := sd) hg ((hA i (by omega)).trans (hBn i (by omega)).symm)
  rw [minL_good k1, minS_good k1, minE_good k1] at m1
  have eD : tminus (A.getD i []) (B.getD i []) = difD A B i := rfl
  rw [eD] at m1
  have hAll := pall_ty sd (difD A B i) hsd
  have hgo' : difGo sd A B (i + 1) n = if resN sd (difD A B i) = 0 then difGo sd A B i (n + difC sd A B i) else min ((if n = 0 then 24 else n) * 2 ^ (i + 1)) 1024 := rfl
  have hC : difC sd A B i = (resP sd (difD A B i)).length + (resM sd (difD A B i)).length := rfl
  rw [hC] at hgo'
  rw [hgo'] at hgo
  clear eD k1 hg hgo' hC
  have hPl := resP_len (seed := sd) (L := difD A B i)
  have hQl := resM_len (seed := sd) (L := difD A B i)
  generalize difD A B i = D at *
  generalize resN sd D = en at *
  generalize resP sd D = P at *
  generalize resM sd D = M at *
  generalize resS sd D = rs at *
  generalize resL sd D = RL at *
  have hiA : i < A.length := by omega
  have hiB : i < B.length := by omega
  refine' region_st 15 13 (dq := 44) (sp := .tmp 8) (sy := .tmp 43) mixed (by kernel_rfl) (by kernel_rfl) hF rfl rfl rfl rfl rfl rfl (fun a v => ⟨put_far rfl a v, put_far rfl a v⟩) ?_ ?_
  rotate_left
  · simp only [List.take_succ_cons, List.take_zero]
    repeat (first
        | exact Line.nil
        | (refine' Line.cons rfl (.new rfl rfl (run_alloc_i infoT46) rfl) ?_; rotate_left)
        | ((first | refine' Line.cons rfl (.run rfl rfl ?_) ?_ | refine' Line.cons rfl (.yes rfl rfl rfl rfl ?_) ?_)
           any_goals (first | exact cMove rfl rfl | exact cAssign rfl rfl | exact cNot rfl rfl | exact cStraLA rfl (.l rfl hq2) | exact cStraLA rfl (.l rfl hq3) | exact cLoadTsA rfl (.t rfl) | exact cIdxTA (k := i) rfl (.t rfl) rfl hiA | exact cIdxTA (k := i) rfl (.t rfl) rfl hiB | exact cLoadTab46 rfl (.t rfl) | exact cCallR2 rfl (.t rfl) (.t rfl) m1 (tabE_olds _ _ _ _) | exact cExtT rfl rfl | exact cExtE rfl rfl | exact cPickF rfl rfl rfl | exact cGeq rfl rfl rfl | exact cEql rfl rfl rfl | exact cNeq rfl rfl rfl | exact cExtract rfl rfl rfl)
           rotate_left))
  intro a w7 hF hb hN
  have hBs := hB.size
  replace hB := hB.trans (hb.mono hB.size)
  simp only [List.take_succ_cons, List.take_zero, List.drop_succ_cons, List.drop_zero] at hF hN ⊢
  dsimp only [ext, Option.getD] at hF
  obtain ⟨z, ⟨g8, rfl, hg8, hb8⟩, hF⟩ := hF.open (s := 8) rfl
  obtain ⟨z, ⟨s43, rfl, S43, hs43, hS43⟩, hF⟩ := hF.open (s := 43) rfl
  have hg8w : w1.heap.size ≤ g8 := Nat.le_trans (hBs) hg8
  refine store_st (Δ := [(2, Ty.ex p2), (3, Ty.ex p3), (6, Ty.ex (.int .i64 (n : Int))), (7, Ty.ex (.int .i64 (i : Int))), (8, Ty.ex (.pointer (some ⟨g8, 0, none⟩))), (44, Ty.ex (.int .i64 0))]) hF rfl rfl rfl (hF.getEx (s := 43) rfl) hb8 rfl sizeT46 (sl_one hs43.sl _) (hF.keep [2, 3, 6, 7, 8, 44]) rfl ?_
  intro w8 hF hb8' hkx
  replace hs43 := hs43.keeps hkx (seg_far hs43 hb8 (by decide))
  replace hB := below_own hB hkx (by intro y hy; simp only [List.mem_singleton] at hy; omega)
  replace hb8 : Blk w8 g8 38 #[.int .u64 (sd : Int), s43] := hb8'
  replace hF := hF.as hF (s := 8) (σ := Ty.tabP 38 27 sd D) rfl (fun v hv => by
    have hv : v = .pointer (some ⟨g8, 0, none⟩) := hv
    subst hv
    exact ⟨s43, ⟨g8, 0, _, (0, 0), rfl, hb8, fun j u h => by simpa using h⟩, hs43.sl⟩)
  clear hb8' hkx hb8 hs43 hS43
  refine' tlOp hF rfl rfl rfl ?_ ?_
  rotate_left
  · first | exact cMove rfl rfl | exact cAssign rfl rfl | exact cPickF rfl rfl rfl | exact cNot rfl rfl | exact cGeq rfl rfl rfl | exact cEql rfl rfl rfl | exact cNeq rfl rfl rfl | exact cExtract rfl rfl rfl
  intro a w9 hF hb
  have hBs := hB.size
  replace hB := hB.trans (hb.mono hB.size)
  try (refine wpList_nil ?_)
  repeat with_reducible first | refine wp_seq ?_ | refine nThen ?_ | refine nBlk ?_ | refine wp_skip ?_ | refine wp_block ?_ | refine wp_exit ?_ | refine xThen ?_ | refine xHere ?_ | refine wp_ret ?_ | refine rThen ?_ | refine rBlk ?_
  refine wp_region_lit ?_
  refine' tlOp hF rfl rfl rfl ?_ ?_
  rotate_left
  · first | exact cMove rfl rfl | exact cLoadTab46 rfl (.t rfl) | exact cCall1 rfl rfl hAll
  intro a w10_0 hF hb
  replace hB := hB.trans (hb.mono hB.size)
  refine' tlOp hF rfl rfl rfl ?_ ?_
  rotate_left
  · first | exact cMove rfl rfl | exact cLoadTab46 rfl (.t rfl) | exact cCall1 rfl rfl hAll
  intro a w10_1 hF hb
  replace hB := hB.trans (hb.mono hB.size)
  refine' tlOp hF rfl rfl rfl ?_ ?_
  rotate_left
  · first | exact cMove rfl rfl | exact cLoadTab46 rfl (.t rfl) | exact cCall1 rfl rfl hAll
  intro a w10_2 hF hb
  replace hB := hB.trans (hb.mono hB.size)
  refine' tlOp hF rfl rfl rfl ?_ ?_
  rotate_left
  · exact cExtract rfl rfl rfl
  intro a w10_t hF hb
  replace hB := hB.trans (hb.mono hB.size)
  refine' tlOp hF rfl rfl rfl ?_ ?_
  rotate_left
  · exact cExtract rfl rfl rfl
  intro a w10_e hF hb
  replace hB := hB.trans (hb.mono hB.size)
  refine tlNewRes hF rfl rfl rfl (by decide) rfl rfl rfl rfl rfl fun a w10_n hF hb => ?_
  replace hB := hB.trans (hb.mono hB.size)
  refine' tlOp hF rfl rfl rfl ?_ ?_
  rotate_left
  · exact cAssign rfl rfl
  intro a w10 hF hb
  replace hB := hB.trans (hb.mono hB.size)
  try (refine wpList_nil ?_)
  repeat with_reducible first | refine wp_seq ?_ | refine nThen ?_ | refine nBlk ?_ | refine wp_skip ?_ | refine wp_block ?_ | refine wp_exit ?_ | refine xThen ?_ | refine xHere ?_ | refine wp_ret ?_ | refine rThen ?_ | refine rBlk ?_
  by_cases h0 : en = 0
  rotate_left
  · rw [if_neg h0] at hgo
    rw [← hgo]
    refine' reg_all hF ?_ mixed (by kernel_rfl) ?_
    rotate_left
    · repeat (first
          | exact Line.nil
          | ((first | refine' Line.cons rfl (.run rfl rfl ?_) ?_ | refine' Line.cons rfl (.yes rfl rfl rfl rfl ?_) ?_)
             any_goals (first | exact cMove rfl rfl | exact cAssign rfl rfl | exact cNot rfl rfl | exact OpOk.b (c := true) (cNeq rfl rfl rfl) (by rw [decide_eq_false h0]; rfl) | exact cPickF rfl rfl rfl | exact cGeq rfl rfl rfl | exact cEql rfl rfl rfl | exact cNeq rfl rfl rfl | exact cExtract rfl rfl rfl)
             rotate_left))
    intro a w11 hF hb hN
    have hBs := hB.size
    replace hB := hB.trans (hb.mono hB.size)
    dsimp only [ext, Option.getD] at hF
    repeat with_reducible first | refine wp_seq ?_ | refine nThen ?_ | refine nBlk ?_ | refine wp_skip ?_ | refine wp_block ?_ | refine wp_exit ?_ | refine xThen ?_ | refine xHere ?_ | refine wp_ret ?_ | refine rThen ?_ | refine rBlk ?_
    refine cond_t hF rfl ?_
    repeat with_reducible first | refine wp_seq ?_ | refine nThen ?_ | refine nBlk ?_ | refine wp_skip ?_ | refine wp_block ?_ | refine wp_exit ?_ | refine xThen ?_ | refine xHere ?_ | refine wp_ret ?_ | refine rThen ?_ | refine rBlk ?_
    have hpw : 2 ^ (i + 1) ≤ 2 ^ 10 := Nat.pow_le_pow_right (by decide) hk
    have hsh : (0 : Int) ≤ ((i : Int) + 1) ∧ ((i : Int) + 1).toNat ≤ IntKind.i64.bits := ⟨by omega, by show _ ≤ 64; omega⟩
    have hto : ((i : Int) + 1).toNat = i + 1 := by omega
    have hcast : ((2 : Int) ^ (i + 1)) = ((2 ^ (i + 1) : Nat) : Int) := by simp
    have hpw1 : 2 ^ (i + 1) ≤ 1024 := hpw
    have hsh2 : ∀ c : Nat, c ≤ 20500 → IntKind.i64.wrap ((c : Int) * 2 ^ ((i : Int) + 1).toNat) = ((c * 2 ^ (i + 1) : Nat) : Int) := fun c hc => by
      have hm : c * 2 ^ (i + 1) ≤ 20500 * 1024 := Nat.mul_le_mul hc hpw1
      rw [hto, hcast, ← Int.natCast_mul]
      exact IntWalk.i64_in _ (by omega)
    by_cases hn0 : n = 0
    · rw [if_pos hn0]
      refine' reg_all hF ?_ mixed (by kernel_rfl) ?_
      rotate_left
      · repeat (first
            | exact Line.nil
            | ((first | refine' Line.cons rfl (.run rfl rfl ?_) ?_ | refine' Line.cons rfl (.yes rfl rfl rfl rfl ?_) ?_)
               any_goals (first | exact cMove rfl rfl | exact cAssign rfl rfl | exact cNot rfl rfl | exact OpOk.b (c := true) (cEql rfl rfl rfl) (decide_eq_true (by omega)) | exact cPickF rfl rfl rfl | exact cGeq rfl rfl rfl | exact cEql rfl rfl rfl | exact cNeq rfl rfl rfl | exact cExtract rfl rfl rfl)
               rotate_left))
      intro a w12 hF hb hN
      have hBs := hB.size
      replace hB := hB.trans (hb.mono hB.size)
      dsimp only [ext, Option.getD] at hF
      repeat with_reducible first | refine wp_seq ?_ | refine nThen ?_ | refine nBlk ?_ | refine wp_skip ?_ | refine wp_block ?_ | refine wp_exit ?_ | refine xThen ?_ | refine xHere ?_ | refine wp_ret ?_ | refine rThen ?_ | refine rBlk ?_
      refine cond_t hF rfl ?_
      repeat with_reducible first | refine wp_seq ?_ | refine nThen ?_ | refine nBlk ?_ | refine wp_skip ?_ | refine wp_block ?_ | refine wp_exit ?_ | refine xThen ?_ | refine xHere ?_ | refine wp_ret ?_ | refine rThen ?_ | refine rBlk ?_
      refine' reg_all hF ?_ mixed (by kernel_rfl) ?_
      rotate_left
      · repeat (first
            | exact Line.nil
            | ((first | refine' Line.cons rfl (.run rfl rfl ?_) ?_ | refine' Line.cons rfl (.yes rfl rfl rfl rfl ?_) ?_)
               any_goals (first | exact cMove rfl rfl | exact cAssign rfl rfl | exact cNot rfl rfl | exact cPickF rfl rfl rfl | exact cGeq rfl rfl rfl | exact cEql rfl rfl rfl | exact cNeq rfl rfl rfl | exact cExtract rfl rfl rfl)
               rotate_left))
      intro a w13 hF hb hN
      have hBs := hB.size
      replace hB := hB.trans (hb.mono hB.size)
      dsimp only [ext, Option.getD] at hF
      repeat with_reducible first | refine wp_seq ?_ | refine nThen ?_ | refine nBlk ?_ | refine wp_skip ?_ | refine wp_block ?_ | refine wp_exit ?_ | refine xThen ?_ | refine xHere ?_ | refine wp_ret ?_ | refine rThen ?_ | refine rBlk ?_
      refine' reg_all hF ?_ mixed (by kernel_rfl) ?_
      rotate_left
      · repeat (first
            | exact Line.nil
            | ((first | refine' Line.cons rfl (.run rfl rfl ?_) ?_ | refine' Line.cons rfl (.yes rfl rfl rfl rfl ?_) ?_)
               any_goals (first | exact cMove rfl rfl | exact cAssign rfl rfl | exact cNot rfl rfl | exact cAdd (r := (i : Int) + 1) rfl rfl rfl (by omega) | exact cShl (r := ((24 * 2 ^ (i + 1) : Nat) : Int)) rfl rfl rfl hsh (hsh2 24 (by omega)) | exact cMinI rfl rfl | exact cPickF rfl rfl rfl | exact cGeq rfl rfl rfl | exact cEql rfl rfl rfl | exact cNeq rfl rfl rfl | exact cExtract rfl rfl rfl)
               rotate_left))
      intro a w14 hF hb hN
      have hBs := hB.size
      replace hB := hB.trans (hb.mono hB.size)
      dsimp only [ext, Option.getD] at hF
      repeat with_reducible first | refine wp_seq ?_ | refine nThen ?_ | refine nBlk ?_ | refine wp_skip ?_ | refine wp_block ?_ | refine wp_exit ?_ | refine xThen ?_ | refine xHere ?_ | refine wp_ret ?_ | refine rThen ?_ | refine rBlk ?_
      refine ret2 hF rfl rfl rfl fun a b ha hb => ?_
      exact ⟨_, rfl, ⟨[a, b], rfl, by rw [ha]; show _ = _; congr 1; omega, hb, trivial⟩, hB1.trans (hB.mono hB1.size)⟩
    · rw [if_neg hn0]
      refine' reg_all hF ?_ mixed (by kernel_rfl) ?_
      rotate_left
      · repeat (first
            | exact Line.nil
            | ((first | refine' Line.cons rfl (.run rfl rfl ?_) ?_ | refine' Line.cons rfl (.yes rfl rfl rfl rfl ?_) ?_)
               any_goals (first | exact cMove rfl rfl | exact cAssign rfl rfl | exact cNot rfl rfl | exact OpOk.b (c := false) (cEql rfl rfl rfl) (decide_eq_false (by omega)) | exact cPickF rfl rfl rfl | exact cGeq rfl rfl rfl | exact cEql rfl rfl rfl | exact cNeq rfl rfl rfl | exact cExtract rfl rfl rfl)
               rotate_left))
      intro a w12 hF hb hN
      have hBs := hB.size
      replace hB := hB.trans (hb.mono hB.size)
      dsimp only [ext, Option.getD] at hF
      repeat with_reducible first | refine wp_seq ?_ | refine nThen ?_ | refine nBlk ?_ | refine wp_skip ?_ | refine wp_block ?_ | refine wp_exit ?_ | refine xThen ?_ | refine xHere ?_ | refine wp_ret ?_ | refine rThen ?_ | refine rBlk ?_
      refine cond_f hF rfl ?_
      repeat with_reducible first | refine wp_seq ?_ | refine nThen ?_ | refine nBlk ?_ | refine wp_skip ?_ | refine wp_block ?_ | refine wp_exit ?_ | refine xThen ?_ | refine xHere ?_ | refine wp_ret ?_ | refine rThen ?_ | refine rBlk ?_
      refine' reg_all hF ?_ mixed (by kernel_rfl) ?_
      rotate_left
      · repeat (first
            | exact Line.nil
            | ((first | refine' Line.cons rfl (.run rfl rfl ?_) ?_ | refine' Line.cons rfl (.yes rfl rfl rfl rfl ?_) ?_)
               any_goals (first | exact cMove rfl rfl | exact cAssign rfl rfl | exact cNot rfl rfl | exact cAdd (r := (i : Int) + 1) rfl rfl rfl (by omega) | exact cShl (r := ((n * 2 ^ (i + 1) : Nat) : Int)) rfl rfl rfl hsh (hsh2 n (by omega)) | exact cMinI rfl rfl | exact cPickF rfl rfl rfl | exact cGeq rfl rfl rfl | exact cEql rfl rfl rfl | exact cNeq rfl rfl rfl | exact cExtract rfl rfl rfl)
               rotate_left))
      intro a w14 hF hb hN
      have hBs := hB.size
      replace hB := hB.trans (hb.mono hB.size)
      dsimp only [ext, Option.getD] at hF
      repeat with_reducible first | refine wp_seq ?_ | refine nThen ?_ | refine nBlk ?_ | refine wp_skip ?_ | refine wp_block ?_ | refine wp_exit ?_ | refine xThen ?_ | refine xHere ?_ | refine wp_ret ?_ | refine rThen ?_ | refine rBlk ?_
      refine ret2 hF rfl rfl rfl fun a b ha hb => ?_
      exact ⟨_, rfl, ⟨[a, b], rfl, by rw [ha]; show _ = _; congr 1; omega, hb, trivial⟩, hB1.trans (hB.mono hB1.size)⟩
  rw [if_pos h0] at hgo
  refine' reg_all hF ?_ mixed (by kernel_rfl) ?_
  rotate_left
  · repeat (first
        | exact Line.nil
        | ((first | refine' Line.cons rfl (.run rfl rfl ?_) ?_ | refine' Line.cons rfl (.yes rfl rfl rfl rfl ?_) ?_)
           any_goals (first | exact cMove rfl rfl | exact cAssign rfl rfl | exact cNot rfl rfl | exact OpOk.b (c := false) (cNeq rfl rfl rfl) (by rw [decide_eq_true h0]; rfl) | exact cPickF rfl rfl rfl | exact cGeq rfl rfl rfl | exact cEql rfl rfl rfl | exact cNeq rfl rfl rfl | exact cExtract rfl rfl rfl)
           rotate_left))
  intro a w11 hF hb hN
  have hBs := hB.size
  replace hB := hB.trans (hb.mono hB.size)
  dsimp only [ext, Option.getD] at hF
  repeat with_reducible first | refine wp_seq ?_ | refine nThen ?_ | refine nBlk ?_ | refine wp_skip ?_ | refine wp_block ?_ | refine wp_exit ?_ | refine xThen ?_ | refine xHere ?_ | refine wp_ret ?_ | refine rThen ?_ | refine rBlk ?_
  refine cond_f hF rfl ?_
  repeat with_reducible first | refine wp_seq ?_ | refine nThen ?_ | refine nBlk ?_ | refine wp_skip ?_ | refine wp_block ?_ | refine wp_exit ?_ | refine xThen ?_ | refine xHere ?_ | refine wp_ret ?_ | refine rThen ?_ | refine rBlk ?_
  refine' reg_all hF ?_ mixed (by kernel_rfl) ?_
  rotate_left
  · repeat (first
        | exact Line.nil
        | ((first | refine' Line.cons rfl (.run rfl rfl ?_) ?_ | refine' Line.cons rfl (.yes rfl rfl rfl rfl ?_) ?_)
           any_goals (first | exact cMove rfl rfl | exact cAssign rfl rfl | exact cNot rfl rfl | exact cSelP rfl (.t rfl) | exact cSelM rfl (.t rfl) | exact cLoadSel rfl rfl | exact cLenH rfl (.t rfl) (Ty.sl_isSl _ _ _) Tryd.underlying34 | exact cAdd (r := ((P.length + M.length : Nat) : Int)) rfl rfl rfl (by omega) | exact cAdd (r := ((n + (P.length + M.length) : Nat) : Int)) rfl rfl rfl (by omega) | exact cPickF rfl rfl rfl | exact cGeq rfl rfl rfl | exact cEql rfl rfl rfl | exact cNeq rfl rfl rfl | exact cExtract rfl rfl rfl)
           rotate_left))
  intro a w12 hF hb hN
  have hBs := hB.size
  replace hB := hB.trans (hb.mono hB.size)
  dsimp only [ext, Option.getD] at hF
  repeat with_reducible first | refine wp_seq ?_ | refine nThen ?_ | refine nBlk ?_ | refine wp_skip ?_ | refine wp_block ?_ | refine wp_exit ?_ | refine xThen ?_ | refine xHere ?_ | refine wp_ret ?_ | refine rThen ?_ | refine rBlk ?_
  refine' reg_all hF ?_ mixed (by kernel_rfl) ?_
  rotate_left
  · repeat (first
        | exact Line.nil
        | ((first | refine' Line.cons rfl (.run rfl rfl ?_) ?_ | refine' Line.cons rfl (.yes rfl rfl rfl rfl ?_) ?_)
           any_goals (first | exact cMove rfl rfl | exact cAssign rfl rfl | exact cNot rfl rfl | exact cSub (r := (i : Int) - 1) rfl rfl rfl (by omega) | exact cPickF rfl rfl rfl | exact cGeq rfl rfl rfl | exact cEql rfl rfl rfl | exact cNeq rfl rfl rfl | exact cExtract rfl rfl rfl)
           rotate_left))
  intro a w13 hF hb hN
  have hBs := hB.size
  replace hB := hB.trans (hb.mono hB.size)
  dsimp only [ext, Option.getD] at hF
  repeat with_reducible first | refine wp_seq ?_ | refine nThen ?_ | refine nBlk ?_ | refine wp_skip ?_ | refine wp_block ?_ | refine wp_exit ?_ | refine xThen ?_ | refine xHere ?_ | refine wp_ret ?_ | refine rThen ?_ | refine rBlk ?_
  exact ⟨i, by omega, n + (P.length + M.length), by omega, by omega, hgo, hF.keep [2, 3, 6, 7], hB⟩
end Go.Proofs.YtgmeagkolahkoaaDoor

/- Strata by types: strata.Of. -/
namespace Go.Proofs.YtgmeagkolahkoaaDoor
open Go.RowKit

abbrev LvT : TypeId := 58
theorem made_ones {z : Value} (hz : z.cells = #[z]) (n : Nat) : (madeCells z.cells (n * 1)).toList = List.replicate n z := by
  rw [hz, Nat.mul_one]
  simp only [madeCells]
  refine List.eq_replicate_iff.2 ⟨by simp, fun b hb => ?_⟩
  simp only [Array.toList_map, Array.toList_range, List.mem_map] at hb
  obtain ⟨x, _, rfl⟩ := hb
  show #[z][x % 1]! = z
  rw [Nat.mod_one]; rfl
/-- The cells of ten levels. -/
def lvCells (u : Nat → Value) : List Value := (List.range 10).map u
def upd {α : Type} (u : Nat → α) (i : Nat) (v : α) : Nat → α := fun j => if j = i then v else u j
theorem upd_eq {α : Type} (u : Nat → α) (i : Nat) (v : α) : upd u i v i = v := if_pos rfl
theorem upd_ne {α : Type} (u : Nat → α) {i j : Nat} (v : α) (h : j ≠ i) : upd u i v j = u j := if_neg h
theorem lvCells_set (u : Nat → Value) {i : Nat} (h : i < 10) (v : Value) : splice (lvCells u).toArray i [v] = (lvCells (upd u i v)).toArray := by
  apply Array.ext_getElem?
  intro j
  unfold lvCells
  by_cases hj : j = i
  · subst hj
    simp [splice, upd, h]
  · have hj' : ¬ i = j := fun e => hj e.symm
    by_cases h10 : j < 10 <;> simp [splice, upd, hj, hj', h10]
theorem infoLv : (Tryd.prog.info? 34).map (fun i => (i.zero, i.size, i.bytes)) = some (some nilS, 1, 24) := by kernel_rfl
set_option maxRecDepth 100000 in
theorem run_makeLv (w : World) : (Instr.makeSlice LvT (.int .i64 10) (.int .i64 10)).run Tryd.prog w = .ok (.slice (some ⟨w.heap.size, 0, none⟩) 10 10) (w.alloc (.cells (lvCells fun _ => nilS).toArray 34)) := by
  obtain ⟨i, h1, h2, h3, h4⟩ := info_parts infoLv
  have h := run_make (P := Tryd.prog) w LvT 34 i _ Tryd.underlying58 h1 h2 .i64 .i64 10 10 (by omega) (Int.le_refl _) (by rw [h4]; decide) (by omega)
  rw [show (10 : Int).toNat = 10 from rfl, h3] at h
  rw [h]
  congr 3
  exact Array.toList_inj.1 (by rw [made_ones rfl]; rfl)
/-- Ten levels of nothing. -/
def Ty.lv0 (w0 : World) : Ty := ⟨fun w v => ∃ g, v = .slice (some ⟨g, 0, none⟩) 10 10 ∧ w0.heap.size ≤ g ∧ Blk w g 34 (lvCells fun _ => nilS).toArray, fun t => t == 34, fun {w w' v G} ⟨g, h1, h2, h3⟩ k hA => ⟨g, h1, h2, h3.keeps k fun hm => by
  obtain ⟨cs', t, fr', k2, k3⟩ := hA g hm h3.lt
  have hb := h3
  unfold Blk at hb
  rw [hb] at k2
  simp only [Option.some.injEq, Obj.cells.injEq] at k2
  rw [← k2.2.1] at k3
  simp at k3⟩⟩
theorem cMakeLv {w0 : World} {Γ : Ctx} {o : Oper} (ho : o.op = .makeSlice LvT (.const (.int .i64 10)) (.const (.int .i64 10))) : OpOk Tryd.prog w0 Γ o (Ty.lv0 w0) :=
  .new fun a w hb _ => ⟨_, _, ⟨w.heap.size, rfl, hb.size, Blk.new w _ _⟩, ((Keeps.refl [] w).alloc _).below, by
    have hc : a.eval (.const (.int .i64 10)) = .int .i64 10 := rfl
    unfold execOp
    simp only [ho, hc]
    rw [Sem.run_bind, run_makeLv w]
    rfl⟩
/-- The levels' memory. -/
structure LvMem (w : World) (g : Nat) (u : Nat → Value) (S : Nat → List Nat) (D : List Sm) : Prop where
  blk : Blk w g 34 (lvCells u).toArray
  seg : ∀ i, i < 10 → Seg w 25 32 (u i) (lvl D i).length (flat (lvl D i)) (S i)
  apart : ∀ i j, i < 10 → j < 10 → i ≠ j → ∀ y ∈ S i, y ∉ S j
theorem LvMem.below {w w' : World} {g : Nat} {u : Nat → Value} {S : Nat → List Nat} {D : List Sm} (h : LvMem w g u S D) (hb : Below w.heap.size w w') : LvMem w' g u S D := ⟨h.blk.below hb, fun i hi => (h.seg i hi).below hb, h.apart⟩
theorem LvMem.nil {w : World} {g : Nat} (h : Blk w g 34 (lvCells fun _ => nilS).toArray) : LvMem w g (fun _ => nilS) (fun _ => []) [] := ⟨h, fun i _ => Seg.nil w 25 32, fun _ _ _ _ _ y hy => by cases hy⟩
theorem LvMem.at_ {w : World} {g : Nat} {u : Nat → Value} {S : Nat → List Nat} {D : List Sm} (h : LvMem w g u S D) {i : Nat} (hi : i < 10) : (Ty.at_ 34 [u i]).p w (.pointer (some ⟨g, 0 + i * 1, none⟩)) := by
  refine ⟨g, 0 + i * 1, _, (0, 0), rfl, h.blk, fun j v hj => ?_⟩
  cases j with
  | succ j => simp at hj
  | zero =>
    have hj : some (u i) = some v := hj
    rw [← hj]
    simp [lvCells, hi]
theorem lvl_snoc (D : List Sm) (x : Sm) (j : Nat) : lvl (D ++ [x]) j = if levelS x = j then lvl D j ++ [x] else lvl D j := by
  unfold lvl
  rw [List.filter_append]
  by_cases h : levelS x = j
  · rw [if_pos h]; simp [h]
  · rw [if_neg h]; simp [h]
theorem LvMem.next {w w' w'' : World} {g i : Nat} {u : Nat → Value} {S : Nat → List Nat} {D : List Sm} {x : Sm} {v : Value} {S' : List Nat} (h : LvMem w g u S D) (hi : i < 10) (hx : levelS x = i) (k : Keeps (S i) w w') (hs : Seg w' 25 32 v ((lvl D i).length + 1) (flat (lvl D i) ++ flat [x]) S') (hS : ∀ b ∈ S', b ∈ S i ∨ w.heap.size ≤ b) (hb : Blk w'' g 34 (lvCells (upd u i v)).toArray) (k2 : Keeps [g] w' w'') : LvMem w'' g (upd u i v) (upd S i S') (D ++ [x]) := by
  have hgi : g ∉ S i := blk_apart (h.seg i hi) h.blk (by decide)
  have hb1 := h.blk.keeps k hgi
  refine ⟨hb, fun j hj => ?_, fun j l hj hl hne y hy => ?_⟩
  · rw [lvl_snoc]
    by_cases hji : j = i
    · subst hji
      rw [if_pos hx, upd_eq, upd_eq, flat_append, List.length_append]
      exact hs.keeps k2 (seg_far hs hb1 (by decide))
    · rw [if_neg (by rw [hx]; exact fun e => hji e.symm), upd_ne _ _ hji, upd_ne _ _ hji]
      have h1 := (h.seg j hj).keeps k (h.apart j i hj hi hji)
      exact h1.keeps k2 (seg_far h1 hb1 (by decide))
  · by_cases hji : j = i
    · subst hji
      rw [upd_eq] at hy
      rw [upd_ne _ _ (fun e => hne e.symm)]
      rcases hS y hy with h1 | h1
      · exact h.apart j l hj hl hne y h1
      · intro hm; have := (h.seg l hl).lt y hm; omega
    · rw [upd_ne _ _ hji] at hy
      by_cases hli : l = i
      · subst hli
        rw [upd_eq]
        intro hm
        rcases hS y hm with h1 | h1
        · exact h.apart j l hj hl hne y hy h1
        · have := (h.seg j hj).lt y hy; omega
      · rw [upd_ne _ _ hli]
        exact h.apart j l hj hl hne y hy
theorem buildSt1 (n : Int) (w : World) : (Instr.build StT #[(0, .int .u64 n)]).run Tryd.prog w = .ok (.agg #[.int .u64 n, nilS]) w := by
  have hz : (zeroValue StT).run Tryd.prog w = .ok (.agg #[.int .u64 0, nilS]) w := by kernel_rfl
  have hu := run_underlying Tryd.underlying31 w
  have h1 := Tryd.sizeOf22 w
  simp only [Instr.build, Sem.run_bind, hz, Result.andThen_ok, hu]
  simp [h1, Instr.fill, Value.cells]
section
variable {w0 : World} {Γ : Ctx} {o : Oper} {x : Operand} {g : Nat}
theorem cStP (ho : o.op = .fieldAddr StT x 1) (hx : OpT Γ x (Ty.ex (.pointer (some ⟨g, 0, none⟩)))) : OpOk Tryd.prog w0 Γ o (Ty.ex (.pointer (some ⟨g, 1, none⟩))) :=
  .val fun a w hb hs => by
    obtain ⟨v, h1, h2⟩ := hs x _ (by simp [ho, Op.operands]) hx
    have h2 : v = .pointer (some ⟨g, 0, none⟩) := h2
    have hr := run_fieldAt (P := Tryd.prog) (i := 1) Tryd.underlying31 rfl sizeTLA g 0 w
    refine ⟨_, rfl, ?_⟩
    unfold execOp
    simp [ho, h1, h2, hr]
theorem st_at {w : World} {u s : Value} (h : Blk w g StT #[u, s]) : (Ty.at_ StT [s]).p w (.pointer (some ⟨g, 1, none⟩)) := ⟨g, 1, _, (0, 0), rfl, h, fun j v hj => by
  cases j with
  | zero => simpa using hj
  | succ j => simp at hj⟩
end
theorem infoTab : (Tryd.prog.info? 38).map (fun i => (i.zero, i.size, i.bytes)) = some (some (.agg zeroT), 2, 32) := infoT46
theorem flatT_one1 {w : World} {e : TypeId} {n : Nat} {xs : List Value} {s : Value} (h : SlP w e s n xs) (sd : Nat) : ∀ v ∈ flatT sd [s], v.oneCell' = true := by
  obtain ⟨A, c, rfl, _⟩ := h
  intro v hv
  simp [flatT] at hv
  rcases hv with rfl | rfl <;> rfl
/-- These as a type. -/
def Ty.slc (e : TypeId) (ss : List Value) (Ls : List (List Cl)) : Ty := ⟨fun w _ => Slc w e ss Ls, fun t => t == e, fun h k hA => h.st k hA⟩
theorem take_range {α : Type} (f : Nat → α) : ∀ j, (List.range (j + 1)).map f = (List.range j).map f ++ [f j] := fun j => by rw [List.range_succ, List.map_append]; rfl
theorem lvl_take_snoc (X : List Sm) {k : Nat} (h : k < X.length) : X.take (k + 1) = X.take k ++ [X.getD k default] := by
  rw [List.take_succ_eq_append_getElem h]
  simp [List.getD, List.getElem?_eq_getElem h]

set_option maxRecDepth 100000 in
set_option maxHeartbeats 4000000 in
theorem stof_any (seed : Nat) (D : List Sm) (hD : D.length ≤ 1000000) (hsd : seed < 18446744073709551616) (w : World) (v u : Value) (hv : v = .int .u64 (seed : Int)) (hu : (Ty.sums 25 D).p w u) (hT : TabOk w) : Ret Tryd.prog 9 #[v, u] w (Ty.stra 38 27 seed (stL seed D)) := by
  subst hv
  have hO := of_ty D hD
  have hXl := setL_len D
  have eL : stL seed D = (List.range 10).map fun i => ofL seed 24 (lvl (setL D) i) := rfl
  rw [eL]
  clear eL
  generalize setL D = X at *
  have heL : Enters Tryd.prog 22 := fun args w => by kernel_rfl
  refine enter_ty 57 [Ty.ex (.int .u64 (seed : Int)), Ty.ex u] Tryd.func9 rfl (by kernel_rfl) ⟨rfl, rfl, trivial⟩ fun a hF => ?_
  have hB := Below.refl w.heap.size w
  let TU := Ty.sums 25 D
  repeat with_reducible first | refine wp_seq ?_ | refine nThen ?_ | refine nBlk ?_ | refine wp_skip ?_ | refine wp_block ?_ | refine wp_exit ?_ | refine xThen ?_ | refine xHere ?_ | refine wp_ret ?_
  refine' reg_all hF ?_ mixed (by kernel_rfl) ?_
  rotate_left
  · repeat (first
        | exact Line.nil
        | (refine' Line.cons rfl (.new rfl rfl (run_alloc_i infoStA) rfl) ?_; rotate_left)
        | ((refine' Line.cons rfl (.run rfl rfl ?_) ?_)
           any_goals (first | exact cMove rfl rfl | exact cAssign rfl rfl | exact cLss rfl rfl rfl)
           rotate_left))
  intro a w1 hF hb hN
  have hBs := hB.size
  replace hB := hB.trans (hb.mono hB.size)
  dsimp only [ext, Option.getD] at hF
  repeat with_reducible first | refine wp_seq ?_ | refine nThen ?_ | refine nBlk ?_ | refine wp_skip ?_ | refine wp_block ?_ | refine wp_exit ?_ | refine xThen ?_ | refine xHere ?_ | refine wp_ret ?_
  obtain ⟨z, ⟨g4, rfl, hg4, hb4⟩, hF⟩ := hF.open (s := 4) rfl
  have hg4 : w.heap.size ≤ g4 := hg4
  have hw1 := hB.size
  refine' reg_all hF ?_ mixed (by kernel_rfl) ?_
  rotate_left
  · repeat (first
        | exact Line.nil
        | ((refine' Line.cons rfl (.run rfl rfl ?_) ?_)
           any_goals (first | exact cMove rfl rfl | exact cAssign rfl rfl | exact cMakeLv rfl | exact cLss rfl rfl rfl)
           rotate_left))
  intro a w2 hF hb hN
  have hBs := hB.size
  replace hB := hB.trans (hb.mono hB.size)
  dsimp only [ext, Option.getD] at hF
  repeat with_reducible first | refine wp_seq ?_ | refine nThen ?_ | refine nBlk ?_ | refine wp_skip ?_ | refine wp_block ?_ | refine wp_exit ?_ | refine xThen ?_ | refine xHere ?_ | refine wp_ret ?_
  replace hb4 := hb4.below hb
  obtain ⟨z, ⟨gl, rfl, hgl, hbl⟩, hF⟩ := hF.open (s := 5) rfl
  have hgl : w.heap.size ≤ gl := Nat.le_trans hw1 hgl
  have hw2 := hB.size
  refine' reg_all hF ?_ mixed (by kernel_rfl) ?_
  rotate_left
  · repeat (first
        | exact Line.nil
        | ((refine' Line.cons rfl (.run rfl rfl ?_) ?_)
           any_goals (first | exact cMove rfl rfl | exact cAssign rfl rfl | exact cCallS1 rfl (.l rfl (TU.below hu hB)) hO | exact cLen rfl rfl (Ty.seg_isSl _ _ _ _ _) Tryd.underlying34 | exact cLss rfl rfl rfl)
           rotate_left))
  intro a w3 hF hb hN
  have hBs := hB.size
  replace hB := hB.trans (hb.mono hB.size)
  dsimp only [ext, Option.getD] at hF
  repeat with_reducible first | refine wp_seq ?_ | refine nThen ?_ | refine nBlk ?_ | refine wp_skip ?_ | refine wp_block ?_ | refine wp_exit ?_ | refine xThen ?_ | refine xHere ?_ | refine wp_ret ?_
  replace hb4 := hb4.below hb
  have hL := (LvMem.nil hbl).below hb
  obtain ⟨vx, ⟨Sx, hvx, _⟩, hF⟩ := hF.open (s := 16) rfl
  refine wp_mono (Q := fun e a wr => e = .exit 0 ∧ ∃ (uv : Nat → Value) (S : Nat → List Nat), Fr 57 [(0, Ty.ex (.int .u64 (seed : Int))), (4, Ty.ex (.pointer (some ⟨g4, 0, none⟩))), (5, Ty.ex (.slice (some ⟨gl, 0, none⟩) 10 10))] a wr ∧ Below w.heap.size w wr ∧ Blk wr g4 StT #[.int .u64 0, nilS] ∧ LvMem wr gl uv S X) ?_ ?_
  · refine loop_ty (fun m a wr => ∃ (k : Nat) (uv : Nat → Value) (S : Nat → List Nat), k + m = X.length ∧ Fr 57 [(0, Ty.ex (.int .u64 (seed : Int))), (4, Ty.ex (.pointer (some ⟨g4, 0, none⟩))), (5, Ty.ex (.slice (some ⟨gl, 0, none⟩) 10 10)), (16, Ty.ex vx), (17, Ty.ex (.int .i64 (X.length : Int))), (18, Ty.ex (.int .i64 (k : Int)))] a wr ∧ Below w.heap.size w wr ∧ Blk wr g4 StT #[.int .u64 0, nilS] ∧ LvMem wr gl uv S (X.take k) ∧ (∀ i, i < 10 → ∀ y ∈ S i, w.heap.size ≤ y) ∧ Seg wr 25 32 vx X.length (flat X) Sx ∧ ∀ i, i < 10 → ∀ y ∈ S i, y ∉ Sx) X.length ?_ ?_
    · exact ⟨0, _, _, by omega, hF.keep [0, 4, 5, 16, 17, 18], hB, hb4, hL, (fun _ _ y hy => by cases hy), hvx, fun _ _ y hy => by cases hy⟩
    clear hF hB hb4 hL hvx hbl
    rintro m a wr ⟨k, uv, S, hk, hF, hB, hb4, hL, hS, hvx, hSx⟩
    repeat with_reducible first | refine wp_seq ?_ | refine nThen ?_ | refine nBlk ?_ | refine wp_skip ?_ | refine wp_block ?_ | refine wp_exit ?_ | refine xThen ?_ | refine xHere ?_ | refine wp_ret ?_
    refine' reg_all hF ?_ mixed (by kernel_rfl) ?_
    rotate_left
    · repeat (first
          | exact Line.nil
          | ((refine' Line.cons rfl (.run rfl rfl ?_) ?_)
             any_goals (first | exact cMove rfl rfl | exact cAssign rfl rfl | exact cLss rfl rfl rfl)
             rotate_left))
    intro a w4 hF hb hN
    have hBs := hB.size
    replace hB := hB.trans (hb.mono hB.size)
    dsimp only [ext, Option.getD] at hF
    repeat with_reducible first | refine wp_seq ?_ | refine nThen ?_ | refine nBlk ?_ | refine wp_skip ?_ | refine wp_block ?_ | refine wp_exit ?_ | refine xThen ?_ | refine xHere ?_ | refine wp_ret ?_
    replace hb4 := hb4.below hb
    replace hL := hL.below hb
    replace hvx := hvx.below hb
    refine cond_ty hF rfl (fun hlt => ?_) (fun hge => ?_)
    rotate_left
    · have hge : ¬ k < X.length := by have := of_decide_eq_false hge; omega
      have hkX : k = X.length := by omega
      rw [hkX, List.take_of_length_le (Nat.le_refl _)] at hL
      repeat with_reducible first | refine wp_seq ?_ | refine nThen ?_ | refine nBlk ?_ | refine wp_skip ?_ | refine wp_block ?_ | refine wp_exit ?_ | refine xThen ?_ | refine xHere ?_ | refine wp_ret ?_
      exact ⟨rfl, uv, S, hF.keep [0, 4, 5], hB, hb4, hL⟩
    have hlt : k < X.length := by have := of_decide_eq_true hlt; omega
    have hts := lvl_take_snoc X hlt
    have hlvk := lvl_len (X.take k)
    have htk : (X.take k).length ≤ X.length := by rw [List.length_take]; omega
    have hi10 := level_lt (X.getD k default)
    have hlvr := level_ret (X.getD k default)
    obtain ⟨x, hx⟩ : ∃ x, X.getD k default = x := ⟨_, rfl⟩
    rw [hx] at hts hi10 hlvr
    have hw4 := hB.size
    repeat with_reducible first | refine wp_seq ?_ | refine nThen ?_ | refine nBlk ?_ | refine wp_skip ?_ | refine wp_block ?_ | refine wp_exit ?_ | refine xThen ?_ | refine xHere ?_ | refine wp_ret ?_
    refine' region_ty 3 mixed (by kernel_rfl) hF ?_ ?_
    rotate_left
    · simp only [List.take_succ_cons, List.take_zero]
      repeat (first
          | exact Line.nil
          | (refine' Line.cons rfl (.new rfl rfl (run_alloc_i infoS) rfl) ?_; rotate_left)
          | ((refine' Line.cons rfl (.run rfl rfl ?_) ?_)
             any_goals (first | exact cMove rfl rfl | exact cAssign rfl rfl | exact cIndexSum (k := k) rfl (.l rfl hvx.sl) rfl Tryd.underlying34 sizeS hlt | exact cLoadSum rfl (.t rfl) Tryd.underlying25 sizeS | exact cLss rfl rfl rfl)
             rotate_left))
    intro a w5 hF hb hN
    have hBs := hB.size
    replace hB := hB.trans (hb.mono hB.size)
    simp only [List.take_succ_cons, List.take_zero, List.drop_succ_cons, List.drop_zero] at hF hN ⊢
    dsimp only [ext, Option.getD] at hF
    rw [hx] at hF
    obtain ⟨z, ⟨g7, rfl, hg7, hb7⟩, hF⟩ := hF.open (s := 7) rfl
    have hg7 : w4.heap.size ≤ g7 := hg7
    refine tlStoreV (Δ := [(0, Ty.ex (.int .u64 (seed : Int))), (4, Ty.ex (.pointer (some ⟨g4, 0, none⟩))), (5, Ty.ex (.slice (some ⟨gl, 0, none⟩) 10 10)), (7, Ty.ex (.pointer (some ⟨g7, 0, none⟩))), (16, Ty.ex vx), (17, Ty.ex (.int .i64 (X.length : Int))), (18, Ty.ex (.int .i64 (k : Int)))]) hF rfl rfl rfl rfl (hF.getEx (s := 21) rfl) hb7 (sumSz _) (by show _ = some (u8s _).size; rw [Sm.size]; exact sizeS) (u8s_one _) (hF.keep [0, 4, 5, 7, 16, 17, 18]) rfl ?_
    intro w6 hF hb7' hkx
    refine wpList_nil ?_
    have hB46 : Below w4.heap.size w4 w6 := below_own hb hkx (by intro y hy; simp only [List.mem_singleton] at hy; omega)
    replace hB := below_own hB hkx (by intro y hy; simp only [List.mem_singleton] at hy; omega)
    replace hb4 := hb4.below hB46
    replace hL := hL.below hB46
    replace hvx := hvx.below hB46
    replace hb7 : Blk w6 g7 25 (u8s x.l) := hb7'
    clear hb7' hkx hB46
    have hT6 := hT.below hB
    have h5 := at5 hb7
    repeat with_reducible first | refine wp_seq ?_ | refine nThen ?_ | refine nBlk ?_ | refine wp_skip ?_ | refine wp_block ?_ | refine wp_exit ?_ | refine xThen ?_ | refine xHere ?_ | refine wp_ret ?_
    refine' reg_all hF ?_ mixed (by kernel_rfl) ?_
    rotate_left
    · repeat (first
          | exact Line.nil
          | ((refine' Line.cons rfl (.run rfl rfl ?_) ?_)
             any_goals (first | exact cMove rfl rfl | exact cAssign rfl rfl | exact cLoadSum rfl (.l rfl h5) Tryd.underlying25 sizeS | exact cCallX1 rfl rfl heL (fun W hb => hlvr W (hT6.below hb)) | exact cLss rfl rfl rfl)
             rotate_left))
    intro a w7 hF hb hN
    have hBs := hB.size
    replace hB := hB.trans (hb.mono hB.size)
    dsimp only [ext, Option.getD] at hF
    repeat with_reducible first | refine wp_seq ?_ | refine nThen ?_ | refine nBlk ?_ | refine wp_skip ?_ | refine wp_block ?_ | refine wp_exit ?_ | refine xThen ?_ | refine xHere ?_ | refine wp_ret ?_
    replace hb4 := hb4.below hb
    replace hL := hL.below hb
    replace hvx := hvx.below hb
    replace hb7 := hb7.below hb
    clear h5 hT6 hlvr
    obtain ⟨i, hi⟩ : ∃ i, levelS x = i := ⟨_, rfl⟩
    rw [hi] at hF hi10
    have h5 := at5 hb7
    have hat := hL.at_ hi10
    have hseg := hL.seg i hi10
    have hlvi := hlvk i
    have hw7 := hB.size
    refine' region_ev 9 8 [2, 3, 4, 5, 6, 7, 8] (dp := 32) (fun v' w' => Keeps (S i) w7 w' ∧ ∃ S', Seg w' 25 32 v' ((lvl (X.take k) i).length + 1) (flat (lvl (X.take k) i) ++ flat [x]) S' ∧ ∀ b ∈ S', b ∈ S i ∨ w7.heap.size ≤ b) mixed (by kernel_rfl) rfl hF ?_ ?_
    rotate_left
    · simp only [List.take_succ_cons, List.take_zero]
      refine' LineE.float rfl rfl ?_ ?_
      any_goals (first | exact fMove rfl rfl rfl)
      rotate_left
      refine' LineE.float rfl rfl ?_ ?_
      any_goals (first | exact fMove rfl rfl rfl)
      rotate_left
      refine' LineE.cons rfl rfl rfl (.run rfl rfl ?_) ?_
      any_goals (first | exact cMove rfl rfl)
      rotate_left
      refine' LineE.cons rfl rfl rfl (.run rfl rfl ?_) ?_
      any_goals (first | exact cMove rfl rfl)
      rotate_left
      refine' LineE.cons rfl rfl rfl (.run rfl rfl ?_) ?_
      any_goals (first | exact cIndexEx (k := i) (sz := 1) rfl rfl rfl Tryd.underlying58 sizeSL1 hi10)
      rotate_left
      refine' LineE.cons rfl rfl rfl (.run rfl rfl ?_) ?_
      any_goals (first | exact cLoad1 (u := uv i) rfl (.l rfl hat) (pts_at _ _) Tryd.underlying34 rfl)
      rotate_left
      refine' LineE.cons rfl rfl rfl (.run rfl rfl ?_) ?_
      any_goals (first | exact cLoadSum rfl (.l rfl h5) Tryd.underlying25 sizeS)
      rotate_left
      refine' LineE.cons rfl rfl rfl (.run rfl rfl ?_) ?_
      any_goals (first | exact cBuildSums [x] rfl (parts1v rfl rfl) Tryd.underlying34 infoS rfl)
      rotate_left
      refine' LineE.event rfl rfl rfl ?_ ?_
      any_goals (first | exact evAppend (m := 1) (news := flat [x]) rfl rfl Tryd.underlying34 infoS zero32_size hseg (.t rfl) sl_news (flat_len _) flat_one' (by simp [maxLen]; omega) (by omega))
      rotate_left
      exact LineE.nil
    intro a W hsz hdf v' hv37 ⟨hk7, S', hseg', hS'⟩ hX
    simp only [List.take_succ_cons, List.take_zero, List.drop_succ_cons, List.drop_zero] at hX ⊢
    dsimp only [ext, Option.getD] at hX
    have hF : Fr 57 [(0, Ty.ex (.int .u64 (seed : Int))), (4, Ty.ex (.pointer (some ⟨g4, 0, none⟩))), (5, Ty.ex (.slice (some ⟨gl, 0, none⟩) 10 10)), (16, Ty.ex vx), (17, Ty.ex (.int .i64 (X.length : Int))), (18, Ty.ex (.int .i64 (k : Int))), (24, Ty.ex (.slice (some ⟨gl, 0, none⟩) 10 10)), (25, Ty.ex (.int .i64 (i : Int))), (32, Ty.ex v')] a W := ((((((((((Fr.bare hsz hdf).letter hv37).letter (hX 25 _ rfl)).letter (hX 24 _ rfl)).letter (hX 18 _ rfl)).letter (hX 17 _ rfl)).letter (hX 16 _ rfl)).letter (hX 5 _ rfl)).letter (hX 4 _ rfl)).letter (hX 0 _ rfl))
    have hOS : ∀ y ∈ S', w.heap.size ≤ y := fun y hy => (hS' y hy).elim (hS i hi10 y) fun h => Nat.le_trans hB.size h
    have hBW := below_lo hB (Nat.le_refl _) hk7 (hS i hi10)
    have hvxW := hvx.keeps hk7 (fun y hy hm => hSx i hi10 y hm hy)
    have hb4W := hb4.keeps hk7 (blk_apart hseg hb4 (by decide))
    have hblW := hL.blk.keeps hk7 (blk_apart hseg hL.blk (by decide))
    replace hB := Below.refl W.heap.size W
    refine' tlOp hF rfl rfl rfl ?_ ?_
    rotate_left
    · first | exact cIndexEx (k := i) (sz := 1) rfl rfl rfl Tryd.underlying58 sizeSL1 hi10 | exact cMove rfl rfl | exact cAssign rfl rfl | exact cLss rfl rfl rfl
    intro a w30 hF hb
    have hBs := hB.size
    replace hB := hB.trans (hb.mono hB.size)
    try (refine wpList_nil ?_)
    repeat with_reducible first | refine wp_seq ?_ | refine nThen ?_ | refine nBlk ?_ | refine wp_skip ?_ | refine wp_block ?_ | refine wp_exit ?_ | refine xThen ?_ | refine xHere ?_ | refine wp_ret ?_
    have hk30 := hk7.trans (Keeps.of_below (S := S i) (hb.mono (Nat.le_refl _)))
    have hseg30 := hseg'.below hb
    have hvx30 := hvxW.below hb
    have hb430 := hb4W.below hb
    have hbl30 := hblW.below hb
    have hB30 := hBW.trans (hb.mono hBW.size)
    have hc1 := sl_cells (seg_isA hseg30)
    have ho1 := sl_one1 (seg_isA hseg30)
    refine tlStoreF (k := 0 + i * 1) (v := v') (Δ := [(0, Ty.ex (.int .u64 (seed : Int))), (4, Ty.ex (.pointer (some ⟨g4, 0, none⟩))), (5, Ty.ex (.slice (some ⟨gl, 0, none⟩) 10 10)), (16, Ty.ex vx), (17, Ty.ex (.int .i64 (X.length : Int))), (18, Ty.ex (.int .i64 (k : Int)))]) hF rfl rfl rfl rfl (hF.getEx (s := 32) rfl) hbl30 (by rw [hc1]; simp [lvCells]; omega) (by rw [hc1]; exact sizeSL1) ho1 (hF.keep [0, 4, 5, 16, 17, 18]) rfl ?_
    intro w31 hF hbl31 hk31
    refine wpList_nil ?_
    rw [show splice (lvCells uv).toArray (0 + i * 1) v'.cells.toList = (lvCells (upd uv i v')).toArray by rw [hc1, show 0 + i * 1 = i by omega]; exact lvCells_set uv hi10 v'] at hbl31
    have hM := hL.next hi10 hi hk30 hseg30 hS' hbl31 hk31
    have hvx31 := hvx30.keeps hk31 (seg_far hvx30 hbl30 (by decide))
    have hb431 := hb430.keeps hk31 (by simpa using hb430.ne hbl30 (by decide))
    replace hB := below_own hB30 hk31 (by intro y hy; simp only [List.mem_singleton] at hy; omega)
    repeat with_reducible first | refine wp_seq ?_ | refine nThen ?_ | refine nBlk ?_ | refine wp_skip ?_ | refine wp_block ?_ | refine wp_exit ?_ | refine xThen ?_ | refine xHere ?_ | refine wp_ret ?_
    refine' reg_all hF ?_ mixed (by kernel_rfl) ?_
    rotate_left
    · repeat (first
          | exact Line.nil
          | ((refine' Line.cons rfl (.run rfl rfl ?_) ?_)
             any_goals (first | exact cMove rfl rfl | exact cAssign rfl rfl | exact cAdd (r := ((k + 1 : Nat) : Int)) rfl rfl rfl (by omega) | exact cLss rfl rfl rfl)
             rotate_left))
    intro a w32 hF hb hN
    have hBs := hB.size
    replace hB := hB.trans (hb.mono hB.size)
    dsimp only [ext, Option.getD] at hF
    repeat with_reducible first | refine wp_seq ?_ | refine nThen ?_ | refine nBlk ?_ | refine wp_skip ?_ | refine wp_block ?_ | refine wp_exit ?_ | refine xThen ?_ | refine xHere ?_ | refine wp_ret ?_
    refine ⟨m - 1, by omega, k + 1, _, _, by omega, hF.keep [0, 4, 5, 16, 17, 18], hB, hb431.below hb, by rw [hts]; exact hM.below hb, fun j hj y hy => ?_, hvx31.below hb, fun j hj y hy => ?_⟩
    · by_cases hji : j = i
      · subst hji
        rw [upd_eq] at hy
        exact hOS y hy
      · rw [upd_ne _ _ hji] at hy
        exact hS j hj y hy
    · by_cases hji : j = i
      · subst hji
        rw [upd_eq] at hy
        rcases hS' y hy with h | h
        · exact hSx j hj y h
        · intro hm; have := hvx.lt y hm; omega
      · rw [upd_ne _ _ hji] at hy
        exact hSx j hj y hy
  clear hF hB hb4 hL hvx hbl
  rintro e a w10 ⟨rfl, uv, S, hF, hB0, hb4, hL⟩
  have hB := Below.refl w10.heap.size w10
  have hw10 := hB0.size
  repeat with_reducible first | refine wp_seq ?_ | refine nThen ?_ | refine nBlk ?_ | refine wp_skip ?_ | refine wp_block ?_ | refine wp_exit ?_ | refine xThen ?_ | refine xHere ?_ | refine wp_ret ?_
  refine wp_region_lit ?_
  refine' tlOp hF rfl rfl rfl ?_ ?_
  rotate_left
  · first | exact cMove rfl rfl | exact cAssign rfl rfl | exact cLss rfl rfl rfl
  intro a w11 hF hb
  have hBs := hB.size
  replace hB := hB.trans (hb.mono hB.size)
  try (refine wpList_nil ?_)
  repeat with_reducible first | refine wp_seq ?_ | refine nThen ?_ | refine nBlk ?_ | refine wp_skip ?_ | refine wp_block ?_ | refine wp_exit ?_ | refine xThen ?_ | refine xHere ?_ | refine wp_ret ?_
  refine' tlOp hF rfl rfl rfl ?_ ?_
  rotate_left
  · first | exact cBuildI rfl rfl (fun w => buildSt1 (seed : Int) w) | exact cMove rfl rfl | exact cAssign rfl rfl | exact cLss rfl rfl rfl
  intro a w12 hF hb
  have hBs := hB.size
  replace hB := hB.trans (hb.mono hB.size)
  try (refine wpList_nil ?_)
  repeat with_reducible first | refine wp_seq ?_ | refine nThen ?_ | refine nBlk ?_ | refine wp_skip ?_ | refine wp_block ?_ | refine wp_exit ?_ | refine xThen ?_ | refine xHere ?_ | refine wp_ret ?_
  have hw12 := hB.size
  refine' tlOp hF rfl rfl rfl ?_ ?_
  rotate_left
  · first | exact cAllocN rfl (run_alloc_i infoStA) | exact cMove rfl rfl | exact cAssign rfl rfl | exact cLss rfl rfl rfl
  intro a w13 hF hb
  have hBs := hB.size
  replace hB := hB.trans (hb.mono hB.size)
  try (refine wpList_nil ?_)
  repeat with_reducible first | refine wp_seq ?_ | refine nThen ?_ | refine nBlk ?_ | refine wp_skip ?_ | refine wp_block ?_ | refine wp_exit ?_ | refine xThen ?_ | refine xHere ?_ | refine wp_ret ?_
  obtain ⟨z, ⟨g9, rfl, hg9, hb9⟩, hF⟩ := hF.open (s := 9) rfl
  have hg9 : w12.heap.size ≤ g9 := hg9
  refine tlStoreV (Δ := [(0, Ty.ex (.int .u64 (seed : Int))), (4, Ty.ex (.pointer (some ⟨g4, 0, none⟩))), (5, Ty.ex (.slice (some ⟨gl, 0, none⟩) 10 10)), (9, Ty.ex (.pointer (some ⟨g9, 0, none⟩)))]) hF rfl rfl rfl rfl (hF.getEx (s := 36) rfl) hb9 rfl sizeStA (tabCells seed _ _ _) (hF.keep [0, 4, 5, 9]) rfl ?_
  intro w14 hF hb9' hkx
  refine wpList_nil ?_
  replace hB := below_own hB hkx (by intro y hy; simp only [List.mem_singleton] at hy; omega)
  replace hb9 : Blk w14 g9 StT #[.int .u64 (seed : Int), nilS] := hb9'
  clear hb9' hkx
  repeat with_reducible first | refine wp_seq ?_ | refine nThen ?_ | refine nBlk ?_ | refine wp_skip ?_ | refine wp_block ?_ | refine wp_exit ?_ | refine xThen ?_ | refine xHere ?_ | refine wp_ret ?_
  refine' reg_all hF ?_ mixed (by kernel_rfl) ?_
  rotate_left
  · repeat (first
        | exact Line.nil
        | ((refine' Line.cons rfl (.run rfl rfl ?_) ?_)
           any_goals (first | exact cMove rfl rfl | exact cAssign rfl rfl | exact cLenEx rfl rfl Tryd.underlying58 | exact cLss rfl rfl rfl)
           rotate_left))
  intro a w15 hF hb hN
  have hBs := hB.size
  replace hB := hB.trans (hb.mono hB.size)
  dsimp only [ext, Option.getD] at hF
  repeat with_reducible first | refine wp_seq ?_ | refine nThen ?_ | refine nBlk ?_ | refine wp_skip ?_ | refine wp_block ?_ | refine wp_exit ?_ | refine xThen ?_ | refine xHere ?_ | refine wp_ret ?_
  replace hb9 := hb9.below hb
  have hg9w : w10.heap.size ≤ g9 := by omega
  have hg49 : g4 < w10.heap.size := hb4.lt
  let f : Nat → List Cl := fun i => ofL seed 24 (lvl X i)
  refine loop_ty (fun m a wr => ∃ (j : Nat) (u9 : Value) (S9 : List Nat) (ss : List Value), j + m = 10 ∧ Fr 57 [(0, Ty.ex (.int .u64 (seed : Int))), (4, Ty.ex (.pointer (some ⟨g4, 0, none⟩))), (9, Ty.ex (.pointer (some ⟨g9, 0, none⟩))), (37, Ty.ex (.slice (some ⟨gl, 0, none⟩) 10 10)), (38, Ty.ex (.int .i64 10)), (39, Ty.ex (.int .i64 (j : Int)))] a wr ∧ Below w10.heap.size w10 wr ∧ Blk wr g9 StT #[.int .u64 (seed : Int), u9] ∧ Seg wr 38 2 u9 j (flatT seed ss) S9 ∧ (Ty.slc 27 ss ((List.range j).map f)).p wr nilS ∧ ∀ y ∈ S9, w10.heap.size ≤ y) 10 ?_ ?_
  · exact ⟨0, nilS, [], [], rfl, hF.keep [0, 4, 9, 37, 38, 39], hB, hb9, Seg.nil _ _ _, Slc.nil _ _, fun y hy => by cases hy⟩
  clear hF hB hb9
  rintro m a wr ⟨j, u9, S9, ss, hj, hF, hBr, hb9, hseg9, hss, hS9⟩
  have hB := Below.refl wr.heap.size wr
  have hLr := hL.below hBr
  repeat with_reducible first | refine wp_seq ?_ | refine nThen ?_ | refine nBlk ?_ | refine wp_skip ?_ | refine wp_block ?_ | refine wp_exit ?_ | refine xThen ?_ | refine xHere ?_ | refine wp_ret ?_
  refine' reg_all hF ?_ mixed (by kernel_rfl) ?_
  rotate_left
  · repeat (first
        | exact Line.nil
        | ((refine' Line.cons rfl (.run rfl rfl ?_) ?_)
           any_goals (first | exact cMove rfl rfl | exact cAssign rfl rfl | exact cLss rfl rfl rfl)
           rotate_left))
  intro a w20 hF hb hN
  have hBs := hB.size
  replace hB := hB.trans (hb.mono hB.size)
  dsimp only [ext, Option.getD] at hF
  repeat with_reducible first | refine wp_seq ?_ | refine nThen ?_ | refine nBlk ?_ | refine wp_skip ?_ | refine wp_block ?_ | refine wp_exit ?_ | refine xThen ?_ | refine xHere ?_ | refine wp_ret ?_
  refine cond_ty hF rfl (fun hlt => ?_) (fun hge => ?_)
  rotate_left
  · have hge : ¬ j < 10 := by have := of_decide_eq_false hge; omega
    obtain hj10 : j = 10 := by omega
    rw [hj10] at hss hseg9
    replace hb9 := hb9.below hb
    replace hseg9 := hseg9.below hb
    replace hss := (Ty.slc 27 ss _).below hss hb
    have hb420 := (hb4.below hBr).below hb
    have hat9 : (Ty.at_ StT [.int .u64 (seed : Int), u9]).p w20 (.pointer (some ⟨g9, 0, none⟩)) := ⟨g9, 0, _, (0, 0), rfl, hb9, fun j u h => by simpa using h⟩
    replace hB := Below.refl w20.heap.size w20
    have hB20 := hB0.trans ((hBr.trans (hb.mono hBr.size)).mono hw10)
    repeat with_reducible first | refine wp_seq ?_ | refine nThen ?_ | refine nBlk ?_ | refine wp_skip ?_ | refine wp_block ?_ | refine wp_exit ?_ | refine xThen ?_ | refine xHere ?_ | refine wp_ret ?_
    refine wp_region_lit ?_
    refine' tlOp hF rfl rfl rfl ?_ ?_
    rotate_left
    · first | exact cLoadAll (cs := #[.int .u64 (seed : Int), u9]) rfl (.l rfl hat9) Tryd.underlying31 rfl sizeStA | exact cMove rfl rfl | exact cAssign rfl rfl | exact cLss rfl rfl rfl
    intro a w21 hF hb
    have hBs := hB.size
    replace hB := hB.trans (hb.mono hB.size)
    try (refine wpList_nil ?_)
    repeat with_reducible first | refine wp_seq ?_ | refine nThen ?_ | refine nBlk ?_ | refine wp_skip ?_ | refine wp_block ?_ | refine wp_exit ?_ | refine xThen ?_ | refine xHere ?_ | refine wp_ret ?_
    refine tlStoreV (Δ := [(4, Ty.ex (.pointer (some ⟨g4, 0, none⟩)))]) hF rfl rfl rfl rfl (hF.getEx (s := 56) rfl) (hb420.below hb) rfl sizeStA (sl_one (hseg9.below hb).sl _) (hF.keep [4]) rfl ?_
    intro w22 hF hb4' hkx
    refine wpList_nil ?_
    have hs22 := (Ty.slc 27 ss _).far ((Ty.slc 27 ss _).below hss hb) hkx (hb420.below hb) rfl
    have hg22 := (hseg9.below hb).keeps hkx (seg_far (hseg9.below hb) (hb420.below hb) (by decide))
    have hB22 := below_own (hB20.trans (hb.mono hB20.size)) hkx (by intro y hy; simp only [List.mem_singleton] at hy; omega)
    repeat with_reducible first | refine wp_seq ?_ | refine nThen ?_ | refine nBlk ?_ | refine wp_skip ?_ | refine wp_block ?_ | refine wp_exit ?_ | refine xThen ?_ | refine xHere ?_ | refine wp_ret ?_
    refine retCell hF rfl rfl hb4' Tryd.underlying31 rfl sizeStA ?_
    exact ⟨_, rfl, ⟨u9, rfl, ss, hs22, by rw [List.length_map, List.length_range]; exact hg22.sl⟩, hB22⟩
  have hlt : j < 10 := by have := of_decide_eq_true hlt; omega
  have hat := (hLr.below hb).at_ hlt
  let TS := Ty.sums 25 (lvl X j)
  have hsu : TS.p wr (uv j) := (hLr.seg j hlt).sl
  have o1 := tof_ty seed 24 (lvl X j) (by have := lvl_len X j; omega) hsd
  rw [newE_good g24, newS_good g24] at o1
  repeat with_reducible first | refine wp_seq ?_ | refine nThen ?_ | refine nBlk ?_ | refine wp_skip ?_ | refine wp_block ?_ | refine wp_exit ?_ | refine xThen ?_ | refine xHere ?_ | refine wp_ret ?_
  refine' reg_all hF ?_ mixed (by kernel_rfl) ?_
  rotate_left
  · repeat (first
        | exact Line.nil
        | ((refine' Line.cons rfl (.run rfl rfl ?_) ?_)
           any_goals (first | exact cMove rfl rfl | exact cAssign rfl rfl | exact cIndexEx (k := j) (sz := 1) rfl rfl rfl Tryd.underlying58 sizeSL1 hlt | exact cLoad1 (u := uv j) rfl (.l rfl hat) (pts_at _ _) Tryd.underlying34 rfl | exact cLss rfl rfl rfl)
           rotate_left))
  intro a w21 hF hb hN
  have hBs := hB.size
  replace hB := hB.trans (hb.mono hB.size)
  dsimp only [ext, Option.getD] at hF
  repeat with_reducible first | refine wp_seq ?_ | refine nThen ?_ | refine nBlk ?_ | refine wp_skip ?_ | refine wp_block ?_ | refine wp_exit ?_ | refine xThen ?_ | refine xHere ?_ | refine wp_ret ?_
  refine wp_region_lit ?_
  refine' tlOp hF rfl rfl rfl ?_ ?_
  rotate_left
  · first | exact cMove rfl rfl | exact cCallR3 rfl (.t rfl) (.t rfl) (.l rfl (TS.below hsu hB)) o1 (tabE_olds _ _ _ _)
  intro a w22_0 hF hb
  replace hB := hB.trans (hb.mono hB.size)
  refine' tlOp hF rfl rfl rfl ?_ ?_
  rotate_left
  · first | exact cMove rfl rfl | exact cCallR3 rfl (.t rfl) (.t rfl) (.l rfl (TS.below hsu hB)) o1 (tabE_olds _ _ _ _)
  intro a w22_1 hF hb
  replace hB := hB.trans (hb.mono hB.size)
  refine' tlOp hF rfl rfl rfl ?_ ?_
  rotate_left
  · first | exact cMove rfl rfl | exact cCallR3 rfl (.t rfl) (.t rfl) (.l rfl (TS.below hsu hB)) o1 (tabE_olds _ _ _ _)
  intro a w22_2 hF hb
  replace hB := hB.trans (hb.mono hB.size)
  refine' tlOp hF rfl rfl rfl ?_ ?_
  rotate_left
  · first | exact cMove rfl rfl | exact cCallR3 rfl (.t rfl) (.t rfl) (.l rfl (TS.below hsu hB)) o1 (tabE_olds _ _ _ _)
  intro a w22_3 hF hb
  replace hB := hB.trans (hb.mono hB.size)
  refine' tlOp hF rfl rfl rfl ?_ ?_
  rotate_left
  · exact cExtT rfl rfl
  intro a w22_t hF hb
  replace hB := hB.trans (hb.mono hB.size)
  refine' tlOp hF rfl rfl rfl ?_ ?_
  rotate_left
  · exact cExtE rfl rfl
  intro a w22_e hF hb
  replace hB := hB.trans (hb.mono hB.size)
  refine tlNewTab hF rfl rfl rfl (by decide) rfl (run_alloc_i infoT46) rfl rfl rfl rfl tabO_tab sizeT46 fun a w22_n hF hb => ?_
  replace hB := hB.trans (hb.mono hB.size)
  refine' tlOp hF rfl rfl rfl ?_ ?_
  rotate_left
  · exact cAssign rfl rfl
  intro a w22 hF hb
  replace hB := hB.trans (hb.mono hB.size)
  try (refine wpList_nil ?_)
  repeat with_reducible first | refine wp_seq ?_ | refine nThen ?_ | refine nBlk ?_ | refine wp_skip ?_ | refine wp_block ?_ | refine wp_exit ?_ | refine xThen ?_ | refine xHere ?_ | refine wp_ret ?_
  obtain ⟨v12, ⟨s12, hat12, hs12⟩, hF⟩ := hF.open (s := 12) rfl
  have hb922 := hb9.below hB
  have hseg22 := hseg9.below hB
  have hss22 := (Ty.slc 27 ss _).below hss hB
  have hB22 := hBr.trans (hB.mono hBr.size)
  replace hF := hF.keep [0, 4, 9, 12, 37, 38, 39]
  dsimp only [pick, look] at hF
  replace hB := Below.refl w22.heap.size w22
  have hat9 := st_at hb922
  refine wp_region_lit ?_
  refine' tlOp hF rfl rfl rfl ?_ ?_
  rotate_left
  · first | exact cStP rfl rfl | exact cMove rfl rfl | exact cAssign rfl rfl | exact cLss rfl rfl rfl
  intro a w30 hF hb
  have hBs := hB.size
  replace hB := hB.trans (hb.mono hB.size)
  try (refine wpList_nil ?_)
  repeat with_reducible first | refine wp_seq ?_ | refine nThen ?_ | refine nBlk ?_ | refine wp_skip ?_ | refine wp_block ?_ | refine wp_exit ?_ | refine xThen ?_ | refine xHere ?_ | refine wp_ret ?_
  refine' tlOp hF rfl rfl rfl ?_ ?_
  rotate_left
  · first | exact cLoad1 (u := u9) rfl (.l rfl ((Ty.at_ StT [u9]).below hat9 hB)) (pts_at _ _) Tryd.underlying29 rfl | exact cMove rfl rfl | exact cAssign rfl rfl | exact cLss rfl rfl rfl
  intro a w31 hF hb
  have hBs := hB.size
  replace hB := hB.trans (hb.mono hB.size)
  try (refine wpList_nil ?_)
  repeat with_reducible first | refine wp_seq ?_ | refine nThen ?_ | refine nBlk ?_ | refine wp_skip ?_ | refine wp_block ?_ | refine wp_exit ?_ | refine xThen ?_ | refine xHere ?_ | refine wp_ret ?_
  refine' tlOp hF rfl rfl rfl ?_ ?_
  rotate_left
  · first | exact cLoadT46 rfl (.l rfl ((Ty.at_ 38 _).below hat12 hB)) | exact cMove rfl rfl | exact cAssign rfl rfl | exact cLss rfl rfl rfl
  intro a w32 hF hb
  have hBs := hB.size
  replace hB := hB.trans (hb.mono hB.size)
  try (refine wpList_nil ?_)
  repeat with_reducible first | refine wp_seq ?_ | refine nThen ?_ | refine nBlk ?_ | refine wp_skip ?_ | refine wp_block ?_ | refine wp_exit ?_ | refine xThen ?_ | refine xHere ?_ | refine wp_ret ?_
  refine' tlOp hF rfl rfl rfl ?_ ?_
  rotate_left
  · first | exact cBuildV (vs := [.agg #[.int .u64 (seed : Int), s12]]) rfl (parts1v rfl rfl) Tryd.underlying29 infoTab rfl (by intro v hv; simp only [List.mem_singleton] at hv; subst hv; rfl) (by decide) (by simp [maxLen]) | exact cMove rfl rfl | exact cAssign rfl rfl | exact cLss rfl rfl rfl
  intro a w33 hF hb
  have hBs := hB.size
  replace hB := hB.trans (hb.mono hB.size)
  try (refine wpList_nil ?_)
  repeat with_reducible first | refine wp_seq ?_ | refine nThen ?_ | refine nBlk ?_ | refine wp_skip ?_ | refine wp_block ?_ | refine wp_exit ?_ | refine xThen ?_ | refine xHere ?_ | refine wp_ret ?_
  have hseg33 := hseg22.below hB
  have hb933 := hb922.below hB
  have hss33 := (Ty.slc 27 ss _).below hss22 hB
  have hs33 := (Ty.cls 27 _).below hs12 hB
  have hB33 := hB22.trans (hB.mono hB22.size)
  refine tlAppend (Δ := [(0, Ty.ex (.int .u64 (seed : Int))), (4, Ty.ex (.pointer (some ⟨g4, 0, none⟩))), (9, Ty.ex (.pointer (some ⟨g9, 0, none⟩))), (37, Ty.ex (.slice (some ⟨gl, 0, none⟩) 10 10)), (38, Ty.ex (.int .i64 10)), (39, Ty.ex (.int .i64 (j : Int)))]) (n := j) (m := 1) (news := flatT seed [s12]) hF rfl rfl rfl rfl Tryd.underlying29 infoTab rfl rfl hseg33 (.t rfl) sl_news rfl (flatT_one1 hs33 seed) (by simp [maxLen]; omega) (by omega) (hF.keep [0, 4, 9, 37, 38, 39]) rfl ?_
  intro a w34 u9' S9' hF hseg34 hk34 hS34
  have hb934 := hb933.keeps hk34 (blk_apart hseg33 hb933 (by decide))
  have hss34 := (Ty.slc 27 ss _).keepSeg hss33 hk34 hseg33 rfl
  have hs34 := (Ty.cls 27 _).keepSeg hs33 hk34 hseg33 rfl
  have hS9n : ∀ y ∈ S9', w10.heap.size ≤ y := own_next hB33 hS9 hS34
  have hB34 := below_own hB33 hk34 hS9
  replace hB := Below.refl w34.heap.size w34
  refine' tlOp hF rfl rfl rfl ?_ ?_
  rotate_left
  · first | exact cStP rfl rfl | exact cMove rfl rfl | exact cAssign rfl rfl | exact cLss rfl rfl rfl
  intro a w35 hF hb
  have hBs := hB.size
  replace hB := hB.trans (hb.mono hB.size)
  try (refine wpList_nil ?_)
  repeat with_reducible first | refine wp_seq ?_ | refine nThen ?_ | refine nBlk ?_ | refine wp_skip ?_ | refine wp_block ?_ | refine wp_exit ?_ | refine xThen ?_ | refine xHere ?_ | refine wp_ret ?_
  have hseg35 := hseg34.below hb
  have hb935 := hb934.below hb
  have hc1 := sl_cells (seg_isA hseg35)
  have ho1 := sl_one1 (seg_isA hseg35)
  refine tlStoreF (k := 1) (v := u9') (Δ := [(0, Ty.ex (.int .u64 (seed : Int))), (4, Ty.ex (.pointer (some ⟨g4, 0, none⟩))), (9, Ty.ex (.pointer (some ⟨g9, 0, none⟩))), (37, Ty.ex (.slice (some ⟨gl, 0, none⟩) 10 10)), (38, Ty.ex (.int .i64 10)), (39, Ty.ex (.int .i64 (j : Int)))]) hF rfl rfl rfl rfl (hF.getEx (s := 53) rfl) hb935 (by rw [hc1]; simp) (by rw [hc1]; exact sizeTLA) ho1 (hF.keep [0, 4, 9, 37, 38, 39]) rfl ?_
  intro w36 hF hb36 hk36
  rw [show splice #[.int .u64 (seed : Int), u9] 1 u9'.cells.toList = #[.int .u64 (seed : Int), u9'] by rw [hc1]; rfl] at hb36
  refine wpList_nil ?_
  have hss36 := (Ty.slc 27 ss _).far ((Ty.slc 27 ss _).below hss34 hb) hk36 hb935 rfl
  have hs36 := (Ty.cls 27 _).far ((Ty.cls 27 _).below hs34 hb) hk36 hb935 rfl
  have hseg36 := hseg35.keeps hk36 (seg_far hseg35 hb935 (by decide))
  replace hB := below_own (hB34.trans (hb.mono hB34.size)) hk36 (by intro y hy; simp only [List.mem_singleton] at hy; omega)
  repeat with_reducible first | refine wp_seq ?_ | refine nThen ?_ | refine nBlk ?_ | refine wp_skip ?_ | refine wp_block ?_ | refine wp_exit ?_ | refine xThen ?_ | refine xHere ?_ | refine wp_ret ?_
  refine' reg_all hF ?_ mixed (by kernel_rfl) ?_
  rotate_left
  · repeat (first
        | exact Line.nil
        | ((refine' Line.cons rfl (.run rfl rfl ?_) ?_)
           any_goals (first | exact cMove rfl rfl | exact cAssign rfl rfl | exact cAdd (r := ((j + 1 : Nat) : Int)) rfl rfl rfl (by omega) | exact cLss rfl rfl rfl)
           rotate_left))
  intro a w37 hF hb hN
  have hBs := hB.size
  replace hB := hB.trans (hb.mono hB.size)
  dsimp only [ext, Option.getD] at hF
  repeat with_reducible first | refine wp_seq ?_ | refine nThen ?_ | refine nBlk ?_ | refine wp_skip ?_ | refine wp_block ?_ | refine wp_exit ?_ | refine xThen ?_ | refine xHere ?_ | refine wp_ret ?_
  refine ⟨m - 1, by omega, j + 1, u9', S9', ss ++ [s12], by omega, hF.keep [0, 4, 9, 37, 38, 39], hB, hb36.below hb, ?_, ?_, hS9n⟩
  · rw [flatT_snoc]
    exact hseg36.below hb
  · rw [take_range]
    exact (Ty.slc 27 _ _).below (Slc.snoc hss36 hs36) hb
end Go.Proofs.YtgmeagkolahkoaaDoor

/- Layer 16 by types: PeelSelf, PeelOne, PeelRoom. -/
namespace Go.Proofs.YtgmeagkolahkoaaDoor
open Go.RowKit

end Go.Proofs.YtgmeagkolahkoaaDoor

/- Layer 17 by types: awake, StrataCells, StrataSelf. -/
namespace Go.Proofs.YtgmeagkolahkoaaDoor
open Go.RowKit

section
variable {P : Program} {w0 : World} {Γ : Ctx} {o : Oper} {f : FuncId} {ats : Array TypeId} {ρ : Ty}
/-- Calls that ask for the library's table. -/
theorem cCallT0 (ho : o.op = .call { callee := .value (.func f), args := #[], argTypes := ats }) (hT : TabOk w0) (he : Enters P f) (hc : ∀ w, TabOk w → Ret P f #[] w ρ) : OpOk P w0 Γ o ρ :=
  .call fun a w hb _ => ⟨f, #[], by rw [exec_go a.eval ho rfl]; simpa using he #[] w, hc w (hT.below hb)⟩
theorem cCallT2 {x y : Operand} {τ σ : Ty} (ho : o.op = .call { callee := .value (.func f), args := #[x, y], argTypes := ats }) (hx : Has w0 Γ x τ) (hy : Has w0 Γ y σ) (hT : TabOk w0) (he : Enters P f) (hc : ∀ w v u, τ.p w v → σ.p w u → TabOk w → Ret P f #[v, u] w ρ) : OpOk P w0 Γ o ρ :=
  .call fun a w hb hs => by
    obtain ⟨v, h1, h2⟩ := hx.see hs (by simp [ho, Op.operands, Call.operands]) hb
    obtain ⟨u, h3, h4⟩ := hy.see hs (by simp [ho, Op.operands, Call.operands]) hb
    refine ⟨f, #[v, u], ?_, hc w v u h2 h4 (hT.below hb)⟩
    rw [exec_go a.eval ho rfl]
    simp only [List.map_toArray, List.map_cons, List.map_nil, h1, h3]
    exact he _ w
end
theorem tabs_one {T e : TypeId} {sd : Nat} {Ls : List (List Cl)} {w : World} {s : Value} (h : (Ty.tabs T e sd Ls).p w s) (n : Nat) : (Value.agg #[.int .u64 (n : Int), s]).cells.all (·.oneCell') = true := by
  obtain ⟨ss, _, h2⟩ := h
  exact sl_one h2 n
theorem enOf : Enters Tryd.prog 9 := fun args w => by kernel_rfl
theorem stof_hc (seed : Nat) (D : List Sm) (hD : D.length ≤ 1000000) (hsd : seed < 18446744073709551616) : ∀ w v u, (Ty.ex (.int .u64 (seed : Int))).p w v → (Ty.sums 25 D).p w u → TabOk w → Ret Tryd.prog 9 #[v, u] w (Ty.stra 38 27 seed (stL seed D)) := fun w v u hv hu hT => stof_any seed D hD hsd w v u hv hu hT
theorem fewL_turn : fewL [3, 2, 1] = fewL [1, 2, 3] := srt_ext (fewL_srt _) (fewL_srt _) fun x => by
  unfold fewL
  rw [setL_mem, setL_mem]
  simp only [List.map_cons, List.map_nil, List.mem_cons, List.not_mem_nil, or_false]
  constructor <;> rintro (h | h | h) <;> simp [h]
set_option maxRecDepth 100000 in
set_option maxHeartbeats 2000000 in
theorem awake17_ret (w : World) (hT : TabOk w) : Ret Tryd.prog 8 #[] w (Ty.ex (.bool true)) := by
  have f1 := few17_ty [1, 2, 3] (Ty.sl 3 3 [ivz 1, ivz 2, ivz 3]) (reads_sl _ _ _) (by simp)
  have f2 := few17_ty [3, 2, 1] (Ty.sl 3 3 [ivz 3, ivz 2, ivz 1]) (reads_sl _ _ _) (by simp)
  rw [fewL_turn] at f2
  have hl := fewL_len [1, 2, 3]
  have hO := stof_hc 3 (fewL [1, 2, 3]) (by simp at hl; omega) (by omega)
  have gA := stL_good 3 (fewL [1, 2, 3])
  have hD := differ_ty 3 _ _ (by omega) gA gA
  rw [dif_self] at hD
  have hG := sgood_ty 3 (stL 3 (fewL [1, 2, 3])) (by rw [stL_len]; omega)
  rw [gA] at hG
  have lA := stL_len 3 (fewL [1, 2, 3])
  clear hl gA
  generalize stL 3 (fewL [1, 2, 3]) = A at *
  generalize fewL [1, 2, 3] = X at *
  refine enter_ty 33 [] Tryd.func8 rfl (by kernel_rfl) trivial fun a hF => ?_
  have hB := Below.refl w.heap.size w
  let TA := Ty.tabs 38 27 3 A
  repeat with_reducible first | refine wp_seq ?_ | refine nThen ?_ | refine wp_ret ?_
  refine' reg_all hF ?_ mixed (by kernel_rfl) ?_
  rotate_left
  · repeat (first
        | exact Line.nil
        | ((first | refine' Line.cons rfl (.run rfl rfl ?_) ?_ | refine' Line.cons rfl (.yes rfl rfl rfl rfl ?_) ?_)
           any_goals (first | exact cMove rfl rfl | exact cAssign rfl rfl | exact cPickT rfl rfl rfl | exact cEql rfl rfl rfl | exact cExtract rfl rfl rfl)
           rotate_left))
  intro a w1 hF hb hN
  have hBs := hB.size
  replace hB := hB.trans (hb.mono hB.size)
  dsimp only [ext, Option.getD] at hF
  repeat with_reducible first | refine wp_seq ?_ | refine nThen ?_ | refine wp_ret ?_
  refine wp_region_lit ?_
  refine' tlOp hF rfl rfl rfl ?_ ?_
  rotate_left
  · first | exact cBuildV (vs := [ivz 1, ivz 2, ivz 3]) rfl (parts3v rfl rfl rfl rfl) Tryd.underlying23 infoInt rfl (by simp [Value.cells, ivz]) (by decide) (by simp [maxLen]) | exact cMove rfl rfl | exact cAssign rfl rfl | exact cPickT rfl rfl rfl | exact cEql rfl rfl rfl | exact cExtract rfl rfl rfl
  intro a w2 hF hb
  have hBs := hB.size
  replace hB := hB.trans (hb.mono hB.size)
  try (refine wpList_nil ?_)
  repeat with_reducible first | refine wp_seq ?_ | refine nThen ?_ | refine wp_ret ?_
  refine' tlOp hF rfl rfl rfl ?_ ?_
  rotate_left
  · first | exact cCallS1 rfl (.t rfl) f1 | exact cMove rfl rfl | exact cAssign rfl rfl | exact cPickT rfl rfl rfl | exact cEql rfl rfl rfl | exact cExtract rfl rfl rfl
  intro a w3 hF hb
  have hBs := hB.size
  replace hB := hB.trans (hb.mono hB.size)
  try (refine wpList_nil ?_)
  repeat with_reducible first | refine wp_seq ?_ | refine nThen ?_ | refine wp_ret ?_
  refine' tlOp hF rfl rfl rfl ?_ ?_
  rotate_left
  · first | exact cCallT2 rfl (.t rfl) (Has.c (.t rfl) seg_sl) (hT.below hB) enOf hO | exact cMove rfl rfl | exact cAssign rfl rfl | exact cPickT rfl rfl rfl | exact cEql rfl rfl rfl | exact cExtract rfl rfl rfl
  intro a w4 hF hb
  have hBs := hB.size
  replace hB := hB.trans (hb.mono hB.size)
  try (refine wpList_nil ?_)
  repeat with_reducible first | refine wp_seq ?_ | refine nThen ?_ | refine wp_ret ?_
  refine' tlOp hF rfl rfl rfl ?_ ?_
  rotate_left
  · first | exact cBuildV (vs := [ivz 3, ivz 2, ivz 1]) rfl (parts3v rfl rfl rfl rfl) Tryd.underlying23 infoInt rfl (by simp [Value.cells, ivz]) (by decide) (by simp [maxLen]) | exact cMove rfl rfl | exact cAssign rfl rfl | exact cPickT rfl rfl rfl | exact cEql rfl rfl rfl | exact cExtract rfl rfl rfl
  intro a w5 hF hb
  have hBs := hB.size
  replace hB := hB.trans (hb.mono hB.size)
  try (refine wpList_nil ?_)
  repeat with_reducible first | refine wp_seq ?_ | refine nThen ?_ | refine wp_ret ?_
  refine' tlOp hF rfl rfl rfl ?_ ?_
  rotate_left
  · first | exact cCallS1 rfl (.t rfl) f2 | exact cMove rfl rfl | exact cAssign rfl rfl | exact cPickT rfl rfl rfl | exact cEql rfl rfl rfl | exact cExtract rfl rfl rfl
  intro a w6 hF hb
  have hBs := hB.size
  replace hB := hB.trans (hb.mono hB.size)
  try (refine wpList_nil ?_)
  repeat with_reducible first | refine wp_seq ?_ | refine nThen ?_ | refine wp_ret ?_
  refine' tlOp hF rfl rfl rfl ?_ ?_
  rotate_left
  · first | exact cCallT2 rfl (.t rfl) (Has.c (.t rfl) seg_sl) (hT.below hB) enOf hO | exact cMove rfl rfl | exact cAssign rfl rfl | exact cPickT rfl rfl rfl | exact cEql rfl rfl rfl | exact cExtract rfl rfl rfl
  intro a w7 hF hb
  have hBs := hB.size
  replace hB := hB.trans (hb.mono hB.size)
  try (refine wpList_nil ?_)
  repeat with_reducible first | refine wp_seq ?_ | refine nThen ?_ | refine wp_ret ?_
  have hz7 := hB.size
  refine' tlOp hF rfl rfl rfl ?_ ?_
  rotate_left
  · first | exact cAllocN rfl (run_alloc_i infoStA) | exact cMove rfl rfl | exact cAssign rfl rfl | exact cPickT rfl rfl rfl | exact cEql rfl rfl rfl | exact cExtract rfl rfl rfl
  intro a w8 hF hb
  have hBs := hB.size
  replace hB := hB.trans (hb.mono hB.size)
  try (refine wpList_nil ?_)
  repeat with_reducible first | refine wp_seq ?_ | refine nThen ?_ | refine wp_ret ?_
  obtain ⟨z, ⟨g1, rfl, hg1, hb1⟩, hF⟩ := hF.open (s := 1) rfl
  have hg1 : w7.heap.size ≤ g1 := hg1
  have hl1 := hb1.lt
  refine' tlOp hF rfl rfl rfl ?_ ?_
  rotate_left
  · first | exact cAllocN rfl (run_alloc_i infoStA) | exact cMove rfl rfl | exact cAssign rfl rfl | exact cPickT rfl rfl rfl | exact cEql rfl rfl rfl | exact cExtract rfl rfl rfl
  intro a w9 hF hb
  have hBs := hB.size
  replace hB := hB.trans (hb.mono hB.size)
  try (refine wpList_nil ?_)
  repeat with_reducible first | refine wp_seq ?_ | refine nThen ?_ | refine wp_ret ?_
  replace hb1 := hb1.below hb
  obtain ⟨z, ⟨g2, rfl, hg2, hb2⟩, hF⟩ := hF.open (s := 2) rfl
  have hg2 : w8.heap.size ≤ g2 := hg2
  obtain ⟨z, ⟨s7, rfl, ht7⟩, hF⟩ := hF.open (s := 7) rfl
  obtain ⟨z, ⟨s10, rfl, ht10⟩, hF⟩ := hF.open (s := 10) rfl
  have hne : g1 ≠ g2 := by omega
  refine tlStoreV (Δ := [(1, Ty.ex (.pointer (some ⟨g1, 0, none⟩))), (2, Ty.ex (.pointer (some ⟨g2, 0, none⟩))), (10, Ty.ex (.agg #[.int .u64 3, s10]))]) hF rfl rfl rfl rfl (hF.getEx (s := 7) rfl) hb1 rfl sizeStA (tabs_one ht7 3) (hF.keep [1, 2, 10]) rfl ?_
  intro w10 hF hb1' hkx
  replace ht7 := TA.far ht7 hkx hb1 rfl
  replace ht10 := TA.far ht10 hkx hb1 rfl
  replace hb2 := hb2.keeps hkx (by simpa using hne.symm)
  replace hB := below_own hB hkx (by intro y hy; simp only [List.mem_singleton] at hy; omega)
  clear hb1
  refine tlStoreV (Δ := [(1, Ty.ex (.pointer (some ⟨g1, 0, none⟩))), (2, Ty.ex (.pointer (some ⟨g2, 0, none⟩)))]) hF rfl rfl rfl rfl (hF.getEx (s := 10) rfl) hb2 rfl sizeStA (tabs_one ht10 3) (hF.keep [1, 2]) rfl ?_
  intro w11 hF hb2' hkx
  replace ht7 := TA.far ht7 hkx hb2 rfl
  replace ht10 := TA.far ht10 hkx hb2 rfl
  replace hb1' := hb1'.keeps hkx (by simpa using hne)
  replace hB := below_own hB hkx (by intro y hy; simp only [List.mem_singleton] at hy; omega)
  refine wpList_nil ?_
  replace hF := hF.as hF (s := 1) (σ := Ty.straP StT 38 27 3 A) rfl (fun v hv => by
    have hv : v = .pointer (some ⟨g1, 0, none⟩) := hv
    subst hv
    exact ⟨s7, ⟨g1, 0, _, (0, 0), rfl, hb1', fun j u h => by simpa [Value.cells] using h⟩, ht7⟩)
  replace hF := hF.as hF (s := 2) (σ := Ty.straP StT 38 27 3 A) rfl (fun v hv => by
    have hv : v = .pointer (some ⟨g2, 0, none⟩) := hv
    subst hv
    exact ⟨s10, ⟨g2, 0, _, (0, 0), rfl, hb2', fun j u h => by simpa [Value.cells] using h⟩, ht10⟩)
  repeat with_reducible first | refine wp_seq ?_ | refine nThen ?_ | refine wp_ret ?_
  refine' reg_all hF ?_ mixed (by kernel_rfl) ?_
  rotate_left
  · repeat (first
        | exact Line.nil
        | ((first | refine' Line.cons rfl (.run rfl rfl ?_) ?_ | refine' Line.cons rfl (.yes rfl rfl rfl rfl ?_) ?_)
           any_goals (first | exact cMove rfl rfl | exact cAssign rfl rfl | exact cLoadStA rfl (.t rfl) | exact cCallH2 rfl (.t rfl) (.t rfl) hD | exact cPickT rfl rfl rfl | exact cEql rfl rfl rfl | exact cExtract rfl rfl rfl)
           rotate_left))
  intro a w12 hF hb hN
  have hBs := hB.size
  replace hB := hB.trans (hb.mono hB.size)
  dsimp only [ext, Option.getD] at hF
  repeat with_reducible first | refine wp_seq ?_ | refine nThen ?_ | refine wp_ret ?_
  refine' reg_all hF ?_ mixed (by kernel_rfl) ?_
  rotate_left
  · repeat (first
        | exact Line.nil
        | ((first | refine' Line.cons rfl (.run rfl rfl ?_) ?_ | refine' Line.cons rfl (.yes rfl rfl rfl rfl ?_) ?_)
           any_goals (first | exact cMove rfl rfl | exact cAssign rfl rfl | exact OpOk.b (c := true) (cEql rfl rfl rfl) rfl | exact cLoadStA rfl (.t rfl) | exact cCall1 rfl rfl hG | exact cStraLA rfl (.t rfl) | exact cLoadTsA rfl (.t rfl) | exact cLenTA rfl (.t rfl) | exact OpOk.b (c := true) (cEql rfl rfl rfl) (decide_eq_true (by omega)) | exact cPickT rfl rfl rfl | exact cEql rfl rfl rfl | exact cExtract rfl rfl rfl)
           rotate_left))
  intro a w13 hF hb hN
  have hBs := hB.size
  replace hB := hB.trans (hb.mono hB.size)
  dsimp only [ext, Option.getD] at hF
  repeat with_reducible first | refine wp_seq ?_ | refine nThen ?_ | refine wp_ret ?_
  refine ret1 hF rfl rfl fun z hz => ?_
  exact ⟨z, rfl, hz, hB⟩
theorem enAwake17 : Enters Tryd.prog 8 := fun args w => by kernel_rfl
end Go.Proofs.YtgmeagkolahkoaaDoor

/- Layer 17: StrataKnown. -/
namespace Go.Proofs.YtgmeagkolahkoaaDoor
open Go.RowKit

theorem lv1 : levelS (fewS 1) = 0 := by decide +kernel
theorem lv2 : levelS (fewS 2) = 0 := by decide +kernel
theorem lv3 : levelS (fewS 3) = 0 := by decide +kernel
theorem lv4 : levelS (fewS 4) = 2 := by decide +kernel
/-- One apart on each side, of two levels. -/
theorem two_levels {a b c d : Sm} (hca : ¬ c = a) (hcb : ¬ c = b) (hda : ¬ d = a) (hdb : ¬ d = b) (hcd : levelS c ≠ levelS d) {D E : List Sm} (hD : ∀ y, y ∈ D ↔ y = a ∨ y = b ∨ y = c) (hE : ∀ y, y ∈ E ↔ y = a ∨ y = b ∨ y = d) (seed : Nat) : difGo seed (stL seed D) (stL seed E) 10 0 = 2 := by
  have hne : ¬ c = d := fun e => hcd (by rw [e])
  have h1 : minusL (lvl (setL D) (levelS c)) (lvl (setL E) (levelS c)) = [c] := srt_ext (minusL_srt _ _) (s_one _) fun y => by
    rw [minusL_mem, lvl_mem, lvl_mem, setL_mem, setL_mem, hD, hE, List.mem_singleton]
    constructor
    · rintro ⟨⟨h | h | h, h2⟩, h3⟩
      · exact absurd ⟨.inl h, h2⟩ h3
      · exact absurd ⟨.inr (.inl h), h2⟩ h3
      · exact h
    · rintro rfl
      exact ⟨⟨.inr (.inr rfl), rfl⟩, fun h => h.1.elim hca fun h => h.elim hcb hne⟩
  have h2 : minusL (lvl (setL E) (levelS c)) (lvl (setL D) (levelS c)) = [] := List.eq_nil_iff_forall_not_mem.2 fun y hy => by
    rw [minusL_mem, lvl_mem, lvl_mem, setL_mem, setL_mem, hD, hE] at hy
    obtain ⟨⟨h | h | h, h2⟩, h3⟩ := hy
    · exact h3 ⟨.inl h, h2⟩
    · exact h3 ⟨.inr (.inl h), h2⟩
    · exact hcd (by rw [← h2, h])
  have h3 : minusL (lvl (setL E) (levelS d)) (lvl (setL D) (levelS d)) = [d] := srt_ext (minusL_srt _ _) (s_one _) fun y => by
    rw [minusL_mem, lvl_mem, lvl_mem, setL_mem, setL_mem, hD, hE, List.mem_singleton]
    constructor
    · rintro ⟨⟨h | h | h, h2⟩, h3⟩
      · exact absurd ⟨.inl h, h2⟩ h3
      · exact absurd ⟨.inr (.inl h), h2⟩ h3
      · exact h
    · rintro rfl
      exact ⟨⟨.inr (.inr rfl), rfl⟩, fun h => h.1.elim hda fun h => h.elim hdb fun e => hne e.symm⟩
  have h4 : minusL (lvl (setL D) (levelS d)) (lvl (setL E) (levelS d)) = [] := List.eq_nil_iff_forall_not_mem.2 fun y hy => by
    rw [minusL_mem, lvl_mem, lvl_mem, setL_mem, setL_mem, hD, hE] at hy
    obtain ⟨⟨h | h | h, h2⟩, h3⟩ := hy
    · exact h3 ⟨.inl h, h2⟩
    · exact h3 ⟨.inr (.inl h), h2⟩
    · exact hcd (by rw [← h2, h])
  have hl : ∀ i, i ≠ levelS c → i ≠ levelS d → lvl (setL D) i = lvl (setL E) i := fun i hi hi2 => srt_ext (lvl_srt (setL_srt D) i) (lvl_srt (setL_srt E) i) fun y => by
    rw [lvl_mem, lvl_mem, setL_mem, setL_mem, hD, hE]
    constructor
    · rintro ⟨h | h | h, h2⟩
      · exact ⟨.inl h, h2⟩
      · exact ⟨.inr (.inl h), h2⟩
      · exact absurd (by rw [← h2, h]) hi
    · rintro ⟨h | h | h, h2⟩
      · exact ⟨.inl h, h2⟩
      · exact ⟨.inr (.inl h), h2⟩
      · exact absurd (by rw [← h2, h]) hi2
  have o1 := (dif_one seed (level_lt c) h1 h2).1
  have o2 := (dif_one seed (level_lt d) h3 h4).2
  rw [difGo_ok 10 0 fun i hi => by
    by_cases hc : i = levelS c
    · rw [hc]; exact o1.1
    · by_cases hd : i = levelS d
      · rw [hd]; exact o2.1
      · exact (dif_same seed hi (hl i hc hd)).1, sumTo_two (j := levelS c) (l := levelS d) hcd o1.2 o2.2 10 (level_lt c) (level_lt d) fun i hi hc hd => (dif_same seed hi (hl i hc hd)).2]
theorem mem_few3 (x y z : Int) (s : Sm) : s ∈ fewL [x, y, z] ↔ s = fewS x ∨ s = fewS y ∨ s = fewS z := by
  unfold fewL
  rw [setL_mem]
  simp
theorem lv_ne {x y : Sm} {i j : Nat} (hx : levelS x = i) (hy : levelS y = j) (h : ¬ i = j) : ¬ x = y := fun e => h (by rw [← hx, ← hy, e])
theorem dif_known : difGo 3 (stL 3 (fewL [1, 2, 3])) (stL 3 (fewL [1, 2, 4])) 10 0 = 2 :=
  two_levels (fun e => few13 e.symm) (fun e => few23 e.symm) (lv_ne lv4 lv1 (by decide)) (lv_ne lv4 lv2 (by decide)) (by rw [lv3, lv4]; decide) (mem_few3 1 2 3) (mem_few3 1 2 4) 3
def ins17 : List Int := [-5, 0, 8, 9, 10, 100, 682, 683, 1000, 1073741824]
def outs17 : List Int := [12, 12, 12, 15, 15, 150, 1023, 1023, 1023, 1023]
theorem cells17 : ∀ k, k < 10 → cellsN (ins17.getD k 0) = outs17.getD k 0 := by decide
theorem cIns17 {w0 : World} {Γ : Ctx} {o : Oper} (ho : o.op = .buildSlice 23 10 #[(0, .const (.int .i64 (-5))), (1, .const (.int .i64 0)), (2, .const (.int .i64 8)), (3, .const (.int .i64 9)), (4, .const (.int .i64 10)), (5, .const (.int .i64 100)), (6, .const (.int .i64 682)), (7, .const (.int .i64 683)), (8, .const (.int .i64 1000)), (9, .const (.int .i64 1073741824))]) : OpOk Tryd.prog w0 Γ o (Ty.sl 3 10 (ins17.map ivz)) := by
  have h := cBuildV (P := Tryd.prog) (w0 := w0) (Γ := Γ) (vs := ins17.map ivz) ho (fun a w _ => by simp [ins17, ivz, Act.eval]) Tryd.underlying23 infoInt rfl (by intro v hv; simp only [List.mem_map] at hv; obtain ⟨z, _, rfl⟩ := hv; rfl) (by decide) (by simp [maxLen])
  exact h
theorem cOuts17 {w0 : World} {Γ : Ctx} {o : Oper} (ho : o.op = .buildSlice 23 10 #[(0, .const (.int .i64 12)), (1, .const (.int .i64 12)), (2, .const (.int .i64 12)), (3, .const (.int .i64 15)), (4, .const (.int .i64 15)), (5, .const (.int .i64 150)), (6, .const (.int .i64 1023)), (7, .const (.int .i64 1023)), (8, .const (.int .i64 1023)), (9, .const (.int .i64 1023))]) : OpOk Tryd.prog w0 Γ o (Ty.sl 3 10 (outs17.map ivz)) := by
  have h := cBuildV (P := Tryd.prog) (w0 := w0) (Γ := Γ) (vs := outs17.map ivz) ho (fun a w _ => by simp [outs17, ivz, Act.eval]) Tryd.underlying23 infoInt rfl (by intro v hv; simp only [List.mem_map] at hv; obtain ⟨z, _, rfl⟩ := hv; rfl) (by decide) (by simp [maxLen])
  exact h
theorem st_nil : ∀ (w : World) (v : Value), (Ty.ex (.agg #[.int .u64 3, nilS])).p w v → (Ty.stra 38 27 3 []).p w v := fun w _ h => ⟨nilS, h, [], Slc.nil w _, (Seg.nil w 38 2).sl⟩
theorem st_nil0 : ∀ (w : World) (v : Value), (Ty.ex (.agg #[.int .u64 0, nilS])).p w v → (Ty.stra 38 27 0 []).p w v := fun w _ h => ⟨nilS, h, [], Slc.nil w _, (Seg.nil w 38 2).sl⟩
theorem nil_sums : ∀ (w : World) (v : Value), (Ty.ex nilS).p w v → (Ty.sums 25 []).p w v := fun w v h => by
  have h : v = nilS := h
  rw [h]
  exact sums_nil w
theorem buildSt0 (w : World) : (Instr.build StT #[]).run Tryd.prog w = .ok (.agg #[.int .u64 0, nilS]) w := by kernel_rfl
set_option maxRecDepth 100000 in
set_option maxHeartbeats 4000000 in
theorem lawStrataKnown_any {w : World} (hT : TabOk w) : Calls Tryd.prog 5 #[] w fun e w' => e = .returned (.bool true) ∧ Below w.heap.size w w' := by
  have f1 := few17_ty [1, 2, 3] (Ty.sl 3 3 [ivz 1, ivz 2, ivz 3]) (reads_sl _ _ _) (by simp)
  have f3 := few17_ty [1, 2, 4] (Ty.sl 3 3 [ivz 1, ivz 2, ivz 4]) (reads_sl _ _ _) (by simp)
  have hl := fewL_len [1, 2, 3]
  have hl3 := fewL_len [1, 2, 4]
  have o1 := stof_hc 3 (fewL [1, 2, 3]) (by simp at hl; omega) (by omega)
  have o2 := stof_hc 4 (fewL [1, 2, 3]) (by simp at hl; omega) (by omega)
  have o3 := stof_hc 3 (fewL [1, 2, 4]) (by simp at hl3; omega) (by omega)
  have o9 := stof_hc 9 [] (by simp) (by omega)
  have gA := stL_good 3 (fewL [1, 2, 3])
  have gC := stL_good 3 (fewL [1, 2, 4])
  have g9 := stL_good 9 []
  have lA := stL_len 3 (fewL [1, 2, 3])
  have lB := stL_len 4 (fewL [1, 2, 3])
  have dC := differ_ty 3 _ _ (by omega) gA gC
  rw [dif_known] at dC
  have dB := differ_bad 3 4 (stL 3 (fewL [1, 2, 3])) (stL 4 (fewL [1, 2, 3])) (by omega) (by omega) (by rw [show decide (3 = 4) = false from rfl, Bool.and_false])
  have dN := differ_bad 3 3 (stL 3 (fewL [1, 2, 3])) [] (by omega) (by simp) (by rw [show goodSt [] = false from rfl, Bool.and_false]; rfl)
  have hG9 := sgood_ty 9 (stL 9 []) (by rw [stL_len]; omega)
  rw [g9] at hG9
  have hG0 := sgood_ty 0 [] (by simp)
  rw [show goodSt [] = false from rfl] at hG0
  clear hl hl3 gA gC g9 lA lB
  generalize stL 3 (fewL [1, 2, 3]) = A at *
  generalize stL 4 (fewL [1, 2, 3]) = B at *
  generalize stL 3 (fewL [1, 2, 4]) = C at *
  generalize stL 9 [] = N9 at *
  generalize fewL [1, 2, 3] = X at *
  generalize fewL [1, 2, 4] = Y at *
  refine enter_ty 88 [] Tryd.func5 rfl (by kernel_rfl) trivial fun a hF => ?_
  have hB := Below.refl w.heap.size w
  let TA := Ty.tabs 38 27 3 A
  let TB := Ty.tabs 38 27 4 B
  repeat with_reducible first | refine wp_seq ?_ | refine nThen ?_ | refine nBlk ?_ | refine wp_skip ?_ | refine wp_block ?_ | refine wp_exit ?_ | refine xThen ?_ | refine xHere ?_ | refine wp_ret ?_
  refine' reg_all hF ?_ mixed (by kernel_rfl) ?_
  rotate_left
  · repeat (first
        | exact Line.nil
        | ((first | refine' Line.cons rfl (.run rfl rfl ?_) ?_ | refine' Line.cons rfl (.yes rfl rfl rfl rfl ?_) ?_)
           any_goals (first | exact cMove rfl rfl | exact cAssign rfl rfl | exact cNot rfl rfl | exact cPickT rfl rfl rfl | exact cPickF rfl rfl rfl | exact cLss rfl rfl rfl | exact cEql rfl rfl rfl | exact cNeq rfl rfl rfl | exact cExtract rfl rfl rfl)
           rotate_left))
  intro a w1 hF hb hN
  have hBs := hB.size
  replace hB := hB.trans (hb.mono hB.size)
  dsimp only [ext, Option.getD] at hF
  repeat with_reducible first | refine wp_seq ?_ | refine nThen ?_ | refine nBlk ?_ | refine wp_skip ?_ | refine wp_block ?_ | refine wp_exit ?_ | refine xThen ?_ | refine xHere ?_ | refine wp_ret ?_
  refine' reg_all hF ?_ mixed (by kernel_rfl) ?_
  rotate_left
  · repeat (first
        | exact Line.nil
        | ((first | refine' Line.cons rfl (.run rfl rfl ?_) ?_ | refine' Line.cons rfl (.yes rfl rfl rfl rfl ?_) ?_)
           any_goals (first | exact cMove rfl rfl | exact cAssign rfl rfl | exact cNot rfl rfl | exact cCallT0 rfl (hT.below hB) enAwake17 awake17_ret | exact cPickT rfl rfl rfl | exact cPickF rfl rfl rfl | exact cLss rfl rfl rfl | exact cEql rfl rfl rfl | exact cNeq rfl rfl rfl | exact cExtract rfl rfl rfl)
           rotate_left))
  intro a w1b hF hb hN
  have hBs := hB.size
  replace hB := hB.trans (hb.mono hB.size)
  dsimp only [ext, Option.getD] at hF
  repeat with_reducible first | refine wp_seq ?_ | refine nThen ?_ | refine nBlk ?_ | refine wp_skip ?_ | refine wp_block ?_ | refine wp_exit ?_ | refine xThen ?_ | refine xHere ?_ | refine wp_ret ?_
  refine cond_f hF rfl ?_
  repeat with_reducible first | refine wp_seq ?_ | refine nThen ?_ | refine nBlk ?_ | refine wp_skip ?_ | refine wp_block ?_ | refine wp_exit ?_ | refine xThen ?_ | refine xHere ?_ | refine wp_ret ?_
  refine wp_region_lit ?_
  refine' tlOp hF rfl rfl rfl ?_ ?_
  rotate_left
  · first | exact cBuildV (vs := [ivz 1, ivz 2, ivz 3]) rfl (parts3v rfl rfl rfl rfl) Tryd.underlying23 infoInt rfl (by simp [Value.cells, ivz]) (by decide) (by simp [maxLen]) | exact cMove rfl rfl | exact cAssign rfl rfl | exact cPickT rfl rfl rfl | exact cPickF rfl rfl rfl | exact cNot rfl rfl | exact cLss rfl rfl rfl | exact cEql rfl rfl rfl | exact cNeq rfl rfl rfl | exact cExtract rfl rfl rfl
  intro a w2 hF hb
  have hBs := hB.size
  replace hB := hB.trans (hb.mono hB.size)
  try (refine wpList_nil ?_)
  repeat with_reducible first | refine wp_seq ?_ | refine nThen ?_ | refine nBlk ?_ | refine wp_skip ?_ | refine wp_block ?_ | refine wp_exit ?_ | refine xThen ?_ | refine xHere ?_ | refine wp_ret ?_
  refine' tlOp hF rfl rfl rfl ?_ ?_
  rotate_left
  · first | exact cCallS1 rfl (.t rfl) f1 | exact cMove rfl rfl | exact cAssign rfl rfl | exact cPickT rfl rfl rfl | exact cPickF rfl rfl rfl | exact cNot rfl rfl | exact cLss rfl rfl rfl | exact cEql rfl rfl rfl | exact cNeq rfl rfl rfl | exact cExtract rfl rfl rfl
  intro a w3 hF hb
  have hBs := hB.size
  replace hB := hB.trans (hb.mono hB.size)
  try (refine wpList_nil ?_)
  repeat with_reducible first | refine wp_seq ?_ | refine nThen ?_ | refine nBlk ?_ | refine wp_skip ?_ | refine wp_block ?_ | refine wp_exit ?_ | refine xThen ?_ | refine xHere ?_ | refine wp_ret ?_
  refine' tlOp hF rfl rfl rfl ?_ ?_
  rotate_left
  · first | exact cCallT2 rfl (.t rfl) (Has.c (.t rfl) seg_sl) (hT.below hB) enOf o1 | exact cMove rfl rfl | exact cAssign rfl rfl | exact cPickT rfl rfl rfl | exact cPickF rfl rfl rfl | exact cNot rfl rfl | exact cLss rfl rfl rfl | exact cEql rfl rfl rfl | exact cNeq rfl rfl rfl | exact cExtract rfl rfl rfl
  intro a w4 hF hb
  have hBs := hB.size
  replace hB := hB.trans (hb.mono hB.size)
  try (refine wpList_nil ?_)
  repeat with_reducible first | refine wp_seq ?_ | refine nThen ?_ | refine nBlk ?_ | refine wp_skip ?_ | refine wp_block ?_ | refine wp_exit ?_ | refine xThen ?_ | refine xHere ?_ | refine wp_ret ?_
  refine' tlOp hF rfl rfl rfl ?_ ?_
  rotate_left
  · first | exact cBuildV (vs := [ivz 1, ivz 2, ivz 3]) rfl (parts3v rfl rfl rfl rfl) Tryd.underlying23 infoInt rfl (by simp [Value.cells, ivz]) (by decide) (by simp [maxLen]) | exact cMove rfl rfl | exact cAssign rfl rfl | exact cPickT rfl rfl rfl | exact cPickF rfl rfl rfl | exact cNot rfl rfl | exact cLss rfl rfl rfl | exact cEql rfl rfl rfl | exact cNeq rfl rfl rfl | exact cExtract rfl rfl rfl
  intro a w5 hF hb
  have hBs := hB.size
  replace hB := hB.trans (hb.mono hB.size)
  try (refine wpList_nil ?_)
  repeat with_reducible first | refine wp_seq ?_ | refine nThen ?_ | refine nBlk ?_ | refine wp_skip ?_ | refine wp_block ?_ | refine wp_exit ?_ | refine xThen ?_ | refine xHere ?_ | refine wp_ret ?_
  refine' tlOp hF rfl rfl rfl ?_ ?_
  rotate_left
  · first | exact cCallS1 rfl (.t rfl) f1 | exact cMove rfl rfl | exact cAssign rfl rfl | exact cPickT rfl rfl rfl | exact cPickF rfl rfl rfl | exact cNot rfl rfl | exact cLss rfl rfl rfl | exact cEql rfl rfl rfl | exact cNeq rfl rfl rfl | exact cExtract rfl rfl rfl
  intro a w6 hF hb
  have hBs := hB.size
  replace hB := hB.trans (hb.mono hB.size)
  try (refine wpList_nil ?_)
  repeat with_reducible first | refine wp_seq ?_ | refine nThen ?_ | refine nBlk ?_ | refine wp_skip ?_ | refine wp_block ?_ | refine wp_exit ?_ | refine xThen ?_ | refine xHere ?_ | refine wp_ret ?_
  refine' tlOp hF rfl rfl rfl ?_ ?_
  rotate_left
  · first | exact cCallT2 rfl (.t rfl) (Has.c (.t rfl) seg_sl) (hT.below hB) enOf o2 | exact cMove rfl rfl | exact cAssign rfl rfl | exact cPickT rfl rfl rfl | exact cPickF rfl rfl rfl | exact cNot rfl rfl | exact cLss rfl rfl rfl | exact cEql rfl rfl rfl | exact cNeq rfl rfl rfl | exact cExtract rfl rfl rfl
  intro a w7 hF hb
  have hBs := hB.size
  replace hB := hB.trans (hb.mono hB.size)
  try (refine wpList_nil ?_)
  repeat with_reducible first | refine wp_seq ?_ | refine nThen ?_ | refine nBlk ?_ | refine wp_skip ?_ | refine wp_block ?_ | refine wp_exit ?_ | refine xThen ?_ | refine xHere ?_ | refine wp_ret ?_
  have hz7 := hB.size
  refine' tlOp hF rfl rfl rfl ?_ ?_
  rotate_left
  · first | exact cAllocN rfl (run_alloc_i infoStA) | exact cMove rfl rfl | exact cAssign rfl rfl | exact cPickT rfl rfl rfl | exact cPickF rfl rfl rfl | exact cNot rfl rfl | exact cLss rfl rfl rfl | exact cEql rfl rfl rfl | exact cNeq rfl rfl rfl | exact cExtract rfl rfl rfl
  intro a w8 hF hb
  have hBs := hB.size
  replace hB := hB.trans (hb.mono hB.size)
  try (refine wpList_nil ?_)
  repeat with_reducible first | refine wp_seq ?_ | refine nThen ?_ | refine nBlk ?_ | refine wp_skip ?_ | refine wp_block ?_ | refine wp_exit ?_ | refine xThen ?_ | refine xHere ?_ | refine wp_ret ?_
  obtain ⟨z, ⟨g1, rfl, hg1, hb1⟩, hF⟩ := hF.open (s := 1) rfl
  have hg1 : w7.heap.size ≤ g1 := hg1
  have hl1 := hb1.lt
  refine' tlOp hF rfl rfl rfl ?_ ?_
  rotate_left
  · first | exact cAllocN rfl (run_alloc_i infoStA) | exact cMove rfl rfl | exact cAssign rfl rfl | exact cPickT rfl rfl rfl | exact cPickF rfl rfl rfl | exact cNot rfl rfl | exact cLss rfl rfl rfl | exact cEql rfl rfl rfl | exact cNeq rfl rfl rfl | exact cExtract rfl rfl rfl
  intro a w9 hF hb
  have hBs := hB.size
  replace hB := hB.trans (hb.mono hB.size)
  try (refine wpList_nil ?_)
  repeat with_reducible first | refine wp_seq ?_ | refine nThen ?_ | refine nBlk ?_ | refine wp_skip ?_ | refine wp_block ?_ | refine wp_exit ?_ | refine xThen ?_ | refine xHere ?_ | refine wp_ret ?_
  replace hb1 := hb1.below hb
  obtain ⟨z, ⟨g2, rfl, hg2, hb2⟩, hF⟩ := hF.open (s := 2) rfl
  have hg2 : w8.heap.size ≤ g2 := hg2
  obtain ⟨z, ⟨s7, rfl, ht7⟩, hF⟩ := hF.open (s := 17) rfl
  obtain ⟨z, ⟨s10, rfl, ht10⟩, hF⟩ := hF.open (s := 20) rfl
  have hne : g1 ≠ g2 := by omega
  refine tlStoreV (Δ := [(1, Ty.ex (.pointer (some ⟨g1, 0, none⟩))), (2, Ty.ex (.pointer (some ⟨g2, 0, none⟩))), (20, Ty.ex (.agg #[.int .u64 4, s10]))]) hF rfl rfl rfl rfl (hF.getEx (s := 17) rfl) hb1 rfl sizeStA (tabs_one ht7 3) (hF.keep [1, 2, 20]) rfl ?_
  intro w10 hF hb1' hkx
  replace ht7 := TA.far ht7 hkx hb1 rfl
  replace ht10 := TB.far ht10 hkx hb1 rfl
  replace hb2 := hb2.keeps hkx (by simpa using hne.symm)
  replace hB := below_own hB hkx (by intro y hy; simp only [List.mem_singleton] at hy; omega)
  clear hb1
  refine tlStoreV (Δ := [(1, Ty.ex (.pointer (some ⟨g1, 0, none⟩))), (2, Ty.ex (.pointer (some ⟨g2, 0, none⟩)))]) hF rfl rfl rfl rfl (hF.getEx (s := 20) rfl) hb2 rfl sizeStA (tabs_one ht10 4) (hF.keep [1, 2]) rfl ?_
  intro w11 hF hb2' hkx
  replace ht7 := TA.far ht7 hkx hb2 rfl
  replace ht10 := TB.far ht10 hkx hb2 rfl
  replace hb1' := hb1'.keeps hkx (by simpa using hne)
  replace hB := below_own hB hkx (by intro y hy; simp only [List.mem_singleton] at hy; omega)
  refine wpList_nil ?_
  replace hF := hF.as hF (s := 1) (σ := Ty.straP StT 38 27 3 A) rfl (fun v hv => by
    have hv : v = .pointer (some ⟨g1, 0, none⟩) := hv
    subst hv
    exact ⟨s7, ⟨g1, 0, _, (0, 0), rfl, hb1', fun j u h => by simpa [Value.cells] using h⟩, ht7⟩)
  replace hF := hF.as hF (s := 2) (σ := Ty.straP StT 38 27 4 B) rfl (fun v hv => by
    have hv : v = .pointer (some ⟨g2, 0, none⟩) := hv
    subst hv
    exact ⟨s10, ⟨g2, 0, _, (0, 0), rfl, hb2', fun j u h => by simpa [Value.cells] using h⟩, ht10⟩)
  repeat with_reducible first | refine wp_seq ?_ | refine nThen ?_ | refine nBlk ?_ | refine wp_skip ?_ | refine wp_block ?_ | refine wp_exit ?_ | refine xThen ?_ | refine xHere ?_ | refine wp_ret ?_
  refine' reg_all hF ?_ mixed (by kernel_rfl) ?_
  rotate_left
  · repeat (first
        | exact Line.nil
        | ((first | refine' Line.cons rfl (.run rfl rfl ?_) ?_ | refine' Line.cons rfl (.yes rfl rfl rfl rfl ?_) ?_)
           any_goals (first | exact cMove rfl rfl | exact cAssign rfl rfl | exact cNot rfl rfl | exact cLoadStA rfl (.t rfl) | exact cCallH2 rfl (.t rfl) (.t rfl) dB | exact cPickT rfl rfl rfl | exact cPickF rfl rfl rfl | exact cLss rfl rfl rfl | exact cEql rfl rfl rfl | exact cNeq rfl rfl rfl | exact cExtract rfl rfl rfl)
           rotate_left))
  intro a w12 hF hb hN
  have hBs := hB.size
  replace hB := hB.trans (hb.mono hB.size)
  dsimp only [ext, Option.getD] at hF
  repeat with_reducible first | refine wp_seq ?_ | refine nThen ?_ | refine nBlk ?_ | refine wp_skip ?_ | refine wp_block ?_ | refine wp_exit ?_ | refine xThen ?_ | refine xHere ?_ | refine wp_ret ?_
  refine' reg_all hF ?_ mixed (by kernel_rfl) ?_
  rotate_left
  · repeat (first
        | exact Line.nil
        | ((first | refine' Line.cons rfl (.run rfl rfl ?_) ?_ | refine' Line.cons rfl (.yes rfl rfl rfl rfl ?_) ?_)
           any_goals (first | exact cMove rfl rfl | exact cAssign rfl rfl | exact cNot rfl rfl | exact cLoadStA rfl (.t rfl) | exact cBuildC rfl (fun w => buildSt1 3 w) | exact cCallH2 rfl (.t rfl) (Has.c (.t rfl) st_nil) dN | exact cPickT rfl rfl rfl | exact cPickF rfl rfl rfl | exact cLss rfl rfl rfl | exact cEql rfl rfl rfl | exact cNeq rfl rfl rfl | exact cExtract rfl rfl rfl)
           rotate_left))
  intro a w13 hF hb hN
  have hBs := hB.size
  replace hB := hB.trans (hb.mono hB.size)
  dsimp only [ext, Option.getD] at hF
  repeat with_reducible first | refine wp_seq ?_ | refine nThen ?_ | refine nBlk ?_ | refine wp_skip ?_ | refine wp_block ?_ | refine wp_exit ?_ | refine xThen ?_ | refine xHere ?_ | refine wp_ret ?_
  refine' reg_all hF ?_ mixed (by kernel_rfl) ?_
  rotate_left
  · repeat (first
        | exact Line.nil
        | ((first | refine' Line.cons rfl (.run rfl rfl ?_) ?_ | refine' Line.cons rfl (.yes rfl rfl rfl rfl ?_) ?_)
           any_goals (first | exact cMove rfl rfl | exact cAssign rfl rfl | exact cNot rfl rfl | exact cLoadStA rfl (.t rfl) | exact cBuildV (vs := [ivz 1, ivz 2, ivz 4]) rfl (parts3v rfl rfl rfl rfl) Tryd.underlying23 infoInt rfl (by simp [Value.cells, ivz]) (by decide) (by simp [maxLen]) | exact cCallS1 rfl (.t rfl) f3 | exact cCallT2 rfl (.t rfl) (Has.c (.t rfl) seg_sl) (hT.below hB) enOf o3 | exact cCallH2 rfl (.t rfl) (.t rfl) dC | exact cPickT rfl rfl rfl | exact cPickF rfl rfl rfl | exact cLss rfl rfl rfl | exact cEql rfl rfl rfl | exact cNeq rfl rfl rfl | exact cExtract rfl rfl rfl)
           rotate_left))
  intro a w14 hF hb hN
  have hBs := hB.size
  replace hB := hB.trans (hb.mono hB.size)
  dsimp only [ext, Option.getD] at hF
  repeat with_reducible first | refine wp_seq ?_ | refine nThen ?_ | refine nBlk ?_ | refine wp_skip ?_ | refine wp_block ?_ | refine wp_exit ?_ | refine xThen ?_ | refine xHere ?_ | refine wp_ret ?_
  refine' reg_all hF ?_ mixed (by kernel_rfl) ?_
  rotate_left
  · repeat (first
        | exact Line.nil
        | ((first | refine' Line.cons rfl (.run rfl rfl ?_) ?_ | refine' Line.cons rfl (.yes rfl rfl rfl rfl ?_) ?_)
           any_goals (first | exact cMove rfl rfl | exact cAssign rfl rfl | exact cNot rfl rfl | exact cIns17 rfl | exact cPickT rfl rfl rfl | exact cPickF rfl rfl rfl | exact cLss rfl rfl rfl | exact cEql rfl rfl rfl | exact cNeq rfl rfl rfl | exact cExtract rfl rfl rfl)
           rotate_left))
  intro a w15 hF hb hN
  have hBs := hB.size
  replace hB := hB.trans (hb.mono hB.size)
  dsimp only [ext, Option.getD] at hF
  repeat with_reducible first | refine wp_seq ?_ | refine nThen ?_ | refine nBlk ?_ | refine wp_skip ?_ | refine wp_block ?_ | refine wp_exit ?_ | refine xThen ?_ | refine xHere ?_ | refine wp_ret ?_
  refine' reg_all hF ?_ mixed (by kernel_rfl) ?_
  rotate_left
  · repeat (first
        | exact Line.nil
        | ((first | refine' Line.cons rfl (.run rfl rfl ?_) ?_ | refine' Line.cons rfl (.yes rfl rfl rfl rfl ?_) ?_)
           any_goals (first | exact cMove rfl rfl | exact cAssign rfl rfl | exact cNot rfl rfl | exact cOuts17 rfl | exact cPickT rfl rfl rfl | exact cPickF rfl rfl rfl | exact cLss rfl rfl rfl | exact cEql rfl rfl rfl | exact cNeq rfl rfl rfl | exact cExtract rfl rfl rfl)
           rotate_left))
  intro a w16 hF hb hN
  have hBs := hB.size
  replace hB := hB.trans (hb.mono hB.size)
  dsimp only [ext, Option.getD] at hF
  repeat with_reducible first | refine wp_seq ?_ | refine nThen ?_ | refine nBlk ?_ | refine wp_skip ?_ | refine wp_block ?_ | refine wp_exit ?_ | refine xThen ?_ | refine xHere ?_ | refine wp_ret ?_
  obtain ⟨v9, h9, hF⟩ := hF.open (s := 9) rfl
  obtain ⟨v10, h10, hF⟩ := hF.open (s := 10) rfl
  let T9 := Ty.sl 3 10 (ins17.map ivz)
  let T10 := Ty.sl 3 10 (outs17.map ivz)
  have h9 : T9.p w16 v9 := h9
  have h10 : T10.p w16 v10 := h10
  refine' reg_all hF ?_ mixed (by kernel_rfl) ?_
  rotate_left
  · repeat (first
        | exact Line.nil
        | ((first | refine' Line.cons rfl (.run rfl rfl ?_) ?_ | refine' Line.cons rfl (.yes rfl rfl rfl rfl ?_) ?_)
           any_goals (first | exact cMove rfl rfl | exact cAssign rfl rfl | exact cNot rfl rfl | exact cPickT rfl rfl rfl | exact cPickF rfl rfl rfl | exact cLss rfl rfl rfl | exact cEql rfl rfl rfl | exact cNeq rfl rfl rfl | exact cExtract rfl rfl rfl)
           rotate_left))
  intro a w17 hF hb hN
  have hBs := hB.size
  replace hB := hB.trans (hb.mono hB.size)
  dsimp only [ext, Option.getD] at hF
  repeat with_reducible first | refine wp_seq ?_ | refine nThen ?_ | refine nBlk ?_ | refine wp_skip ?_ | refine wp_block ?_ | refine wp_exit ?_ | refine xThen ?_ | refine xHere ?_ | refine wp_ret ?_
  refine loop_ty (fun m a wr => ∃ k : Nat, k + m = 10 ∧ Fr 88 [(4, Ty.ex (.int .i64 1)), (6, Ty.ex (.int .i64 1)), (7, Ty.ex (.int .i64 (2 : Nat))), (8, Ty.ex (.int .i64 0)), (9, Ty.ex v9), (10, Ty.ex v10), (11, Ty.ex (.int .i64 (k : Int)))] a wr ∧ Below w.heap.size w wr ∧ T9.p wr v9 ∧ T10.p wr v10) 10 ?_ ?_
  · exact ⟨0, rfl, hF.keep [4, 6, 7, 8, 9, 10, 11], hB, T9.below h9 hb, T10.below h10 hb⟩
  clear hF hB h9 h10
  rintro m a wr ⟨k, hk, hF, hB, h9, h10⟩
  repeat with_reducible first | refine wp_seq ?_ | refine nThen ?_ | refine nBlk ?_ | refine wp_skip ?_ | refine wp_block ?_ | refine wp_exit ?_ | refine xThen ?_ | refine xHere ?_ | refine wp_ret ?_
  refine' reg_all hF ?_ mixed (by kernel_rfl) ?_
  rotate_left
  · repeat (first
        | exact Line.nil
        | ((first | refine' Line.cons rfl (.run rfl rfl ?_) ?_ | refine' Line.cons rfl (.yes rfl rfl rfl rfl ?_) ?_)
           any_goals (first | exact cMove rfl rfl | exact cAssign rfl rfl | exact cNot rfl rfl | exact cLenH rfl (.l rfl h9) (Ty.sl_isSl _ _ _) Tryd.underlying23 | exact cPickT rfl rfl rfl | exact cPickF rfl rfl rfl | exact cLss rfl rfl rfl | exact cEql rfl rfl rfl | exact cNeq rfl rfl rfl | exact cExtract rfl rfl rfl)
           rotate_left))
  intro a w18 hF hb hN
  have hBs := hB.size
  replace hB := hB.trans (hb.mono hB.size)
  dsimp only [ext, Option.getD] at hF
  repeat with_reducible first | refine wp_seq ?_ | refine nThen ?_ | refine nBlk ?_ | refine wp_skip ?_ | refine wp_block ?_ | refine wp_exit ?_ | refine xThen ?_ | refine xHere ?_ | refine wp_ret ?_
  replace h9 := T9.below h9 hb
  replace h10 := T10.below h10 hb
  refine cond_ty hF rfl (fun hlt => ?_) (fun hge => ?_)
  · have hlt : k < 10 := by have := of_decide_eq_true hlt; omega
    have hd9 := ivz_drop (l := ins17) (k := k) hlt
    have hd10 := ivz_drop (l := outs17) (k := k) hlt
    have hc := cells17 k hlt
    have hcc := cells_ty (ins17.getD k 0)
    rw [hc] at hcc
    have hgd := cells_good (ins17.getD k 0)
    rw [hc] at hgd
    have hgg := good14_ty (outs17.getD k 0)
    rw [hgd] at hgg
    repeat with_reducible first | refine wp_seq ?_ | refine nThen ?_ | refine nBlk ?_ | refine wp_skip ?_ | refine wp_block ?_ | refine wp_exit ?_ | refine xThen ?_ | refine xHere ?_ | refine wp_ret ?_
    refine' reg_all hF ?_ mixed (by kernel_rfl) ?_
    rotate_left
    · repeat (first
          | exact Line.nil
          | ((first | refine' Line.cons rfl (.run rfl rfl ?_) ?_ | refine' Line.cons rfl (.yes rfl rfl rfl rfl ?_) ?_)
             any_goals (first | exact cMove rfl rfl | exact cAssign rfl rfl | exact cNot rfl rfl | exact cIndexS (k := k) (sz := 1) rfl (.l rfl h9) rfl Tryd.underlying23 sizeI hlt (by rw [List.length_map, Nat.mul_one]; exact hlt) | exact cLoad1 (u := ivz (ins17.getD k 0)) rfl (Has.c (.t rfl) (fun W v h => by rw [Nat.mul_one, hd9] at h; exact h)) (pts_at _ _) Tryd.underlying3 rfl | exact cCall1 rfl rfl hcc | exact cPickT rfl rfl rfl | exact cPickF rfl rfl rfl | exact cLss rfl rfl rfl | exact cEql rfl rfl rfl | exact cNeq rfl rfl rfl | exact cExtract rfl rfl rfl)
             rotate_left))
    intro a w19 hF hb hN
    have hBs := hB.size
    replace hB := hB.trans (hb.mono hB.size)
    dsimp only [ext, Option.getD] at hF
    repeat with_reducible first | refine wp_seq ?_ | refine nThen ?_ | refine nBlk ?_ | refine wp_skip ?_ | refine wp_block ?_ | refine wp_exit ?_ | refine xThen ?_ | refine xHere ?_ | refine wp_ret ?_
    replace h9 := T9.below h9 hb
    replace h10 := T10.below h10 hb
    refine' reg_all hF ?_ mixed (by kernel_rfl) ?_
    rotate_left
    · repeat (first
          | exact Line.nil
          | ((first | refine' Line.cons rfl (.run rfl rfl ?_) ?_ | refine' Line.cons rfl (.yes rfl rfl rfl rfl ?_) ?_)
             any_goals (first | exact cMove rfl rfl | exact cAssign rfl rfl | exact cNot rfl rfl | exact cIndexS (k := k) (sz := 1) rfl (.l rfl h10) rfl Tryd.underlying23 sizeI hlt (by rw [List.length_map, Nat.mul_one]; exact hlt) | exact cLoad1 (u := .int .i64 (outs17.getD k 0)) rfl (Has.c (.t rfl) (fun W v h => by rw [Nat.mul_one, hd10] at h; exact h)) (pts_at _ _) Tryd.underlying3 rfl | exact OpOk.b (c := false) (cNeq rfl rfl rfl) (by simp) | exact cCall1 rfl rfl hgg | exact cPickT rfl rfl rfl | exact cPickF rfl rfl rfl | exact cLss rfl rfl rfl | exact cEql rfl rfl rfl | exact cNeq rfl rfl rfl | exact cExtract rfl rfl rfl)
             rotate_left))
    intro a w20 hF hb hN
    have hBs := hB.size
    replace hB := hB.trans (hb.mono hB.size)
    dsimp only [ext, Option.getD] at hF
    repeat with_reducible first | refine wp_seq ?_ | refine nThen ?_ | refine nBlk ?_ | refine wp_skip ?_ | refine wp_block ?_ | refine wp_exit ?_ | refine xThen ?_ | refine xHere ?_ | refine wp_ret ?_
    replace h9 := T9.below h9 hb
    replace h10 := T10.below h10 hb
    refine cond_f hF rfl ?_
    repeat with_reducible first | refine wp_seq ?_ | refine nThen ?_ | refine nBlk ?_ | refine wp_skip ?_ | refine wp_block ?_ | refine wp_exit ?_ | refine xThen ?_ | refine xHere ?_ | refine wp_ret ?_
    refine' reg_all hF ?_ mixed (by kernel_rfl) ?_
    rotate_left
    · repeat (first
          | exact Line.nil
          | ((first | refine' Line.cons rfl (.run rfl rfl ?_) ?_ | refine' Line.cons rfl (.yes rfl rfl rfl rfl ?_) ?_)
             any_goals (first | exact cMove rfl rfl | exact cAssign rfl rfl | exact cNot rfl rfl | exact cAdd (r := ((k + 1 : Nat) : Int)) rfl rfl rfl (by omega) | exact cPickT rfl rfl rfl | exact cPickF rfl rfl rfl | exact cLss rfl rfl rfl | exact cEql rfl rfl rfl | exact cNeq rfl rfl rfl | exact cExtract rfl rfl rfl)
             rotate_left))
    intro a w21 hF hb hN
    have hBs := hB.size
    replace hB := hB.trans (hb.mono hB.size)
    dsimp only [ext, Option.getD] at hF
    repeat with_reducible first | refine wp_seq ?_ | refine nThen ?_ | refine nBlk ?_ | refine wp_skip ?_ | refine wp_block ?_ | refine wp_exit ?_ | refine xThen ?_ | refine xHere ?_ | refine wp_ret ?_
    exact ⟨m - 1, by omega, k + 1, by omega, hF.keep [4, 6, 7, 8, 9, 10, 11], hB, T9.below h9 hb, T10.below h10 hb⟩
  · repeat with_reducible first | refine wp_seq ?_ | refine nThen ?_ | refine nBlk ?_ | refine wp_skip ?_ | refine wp_block ?_ | refine wp_exit ?_ | refine xThen ?_ | refine xHere ?_ | refine wp_ret ?_
    refine' reg_all hF ?_ mixed (by kernel_rfl) ?_
    rotate_left
    · repeat (first
          | exact Line.nil
          | ((first | refine' Line.cons rfl (.run rfl rfl ?_) ?_ | refine' Line.cons rfl (.yes rfl rfl rfl rfl ?_) ?_)
             any_goals (first | exact cMove rfl rfl | exact cAssign rfl rfl | exact cNot rfl rfl | exact OpOk.b (c := true) (cEql rfl rfl rfl) rfl | exact cBuildE rfl (fun w => buildSt0 w) | exact cCallH1 rfl (Has.c (.t rfl) st_nil0) hG0 | exact cCallT2 rfl (.t rfl) (Has.c (.t rfl) nil_sums) (hT.below hB) enOf o9 | exact cCall1 rfl rfl hG9 | exact cPickT rfl rfl rfl | exact cPickF rfl rfl rfl | exact cLss rfl rfl rfl | exact cEql rfl rfl rfl | exact cNeq rfl rfl rfl | exact cExtract rfl rfl rfl)
             rotate_left))
    intro a w19 hF hb hN
    have hBs := hB.size
    replace hB := hB.trans (hb.mono hB.size)
    dsimp only [ext, Option.getD] at hF
    repeat with_reducible first | refine wp_seq ?_ | refine nThen ?_ | refine nBlk ?_ | refine wp_skip ?_ | refine wp_block ?_ | refine wp_exit ?_ | refine xThen ?_ | refine xHere ?_ | refine wp_ret ?_
    refine ret1 hF rfl rfl fun z hz => ?_
    exact ⟨by rw [show z = .bool true from hz], hB⟩
end Go.Proofs.YtgmeagkolahkoaaDoor

/- From a row's reading of an argument to what a walk takes: slices of bytes; whole numbers. -/
namespace Go.Proofs.YtgmeagkolahkoaaDoor
open Go.RowKit Go.ChangeShapes Go.WideShapes

end Go.Proofs.YtgmeagkolahkoaaDoor

/- From a row's reading of an argument to what a walk takes: whole numbers in a slice; sums of thirty-two bytes. -/
namespace Go.Proofs.YtgmeagkolahkoaaDoor
open Go.RowKit Go.ChangeShapes Go.WideShapes

end Go.Proofs.YtgmeagkolahkoaaDoor

/- The statement StrataKnownSaid is proved here: for every input the law tallyman/tallymanlaw17.StrataKnown returns true, and each argument reads as before; the library's table reads as its initialiser lays it. (the examples answer as told.) -/
namespace Go.Proofs.YtgmeagkolahkoaaDoor.strataKnown
open Go.ChangeShapes Go.WideShapes Go.ChangeAt Go.RowKit
set_option linter.unusedVariables false
theorem own : ownKnob Tryd.prog.godebug = none := by kernel_rfl
theorem gT : Tryd.prog.globalNamed "math/bits.deBruijn64tab" = some 0 := by kernel_rfl
theorem gTType : (Tryd.prog.globals[0]?).map (·.type) = some 130 := by kernel_rfl
theorem cellsE : Tryd.prog.cellsOf 5 = 1 := by kernel_rfl
theorem cellsT : Tryd.prog.cellsOf 130 = 64 := by kernel_rfl
def tabZ : List Int := Lib.deBruijn64tab.map Int.ofNat
noncomputable def laidWorld (os : Os) : World :=
  { World.holding Tryd.prog os ⟨#[], #[], []⟩ with heap := (World.holding Tryd.prog os ⟨#[], #[], []⟩).heap.modify 0 fun
      | .cells _ t frozen => .cells (tabZ.map fun z => Value.int .u8 z).toArray t frozen
      | o => o }
theorem laid_met (os : Os) (args : Array Value) : laidMet Tryd.prog Rows.strataKnownRow.laid ((laidWorld os).forCall (fun _ _ => 0) ⟨#[], args, []⟩).memory :=
  laidMet_of_run' 8 (by kernel_rfl) (by kernel_rfl)
theorem witness_row (os : Os) {H : Type} (enc : TypeId × Value → H) :
    (OpenSpec.ofChange Rows.strataKnownSpec).preRow enc Tryd.prog Tryd.f5 Rows.strataKnownRow.domain false Rows.strataKnownRow.laid ((laidWorld os).forCall (fun _ _ => 0) ⟨#[], #[], []⟩).memory #[] := by
  have hw : (DataW.whole enc Tryd.prog ((laidWorld os).forCall (fun _ _ => 0) ⟨#[], #[], []⟩).memory Tryd.f5.params.toList (OpenSpec.ofChange Rows.strataKnownSpec).vars false (#[] : Array Value).toList 8).map (fun x => (x.1, x.2.1)) =
      some ([], []) := by kernel_rfl
  obtain ⟨⟨x1, x2, x3⟩, hx, hx1⟩ := Option.map_eq_some_iff.1 hw
  simp only [Prod.mk.injEq] at hx1
  obtain ⟨rfl, rfl⟩ := hx1
  exact OpenSpec.preRow_of_cond 8 hx (by kernel_rfl) (fun k hk => by cases hk) (by kernel_rfl) (laid_met os _)
theorem tab_ok {W : World} (h : Lib.TabIs Tryd.prog W "math/bits.deBruijn64tab" .u8 tabZ) : TabOk W := by
  refine ⟨⟨0, 0, none⟩, rfl, fun j v hv => ?_, by simp [Lib.deBruijn64tab]⟩
  have hj : j < Lib.deBruijn64tab.length := by have := (List.getElem?_eq_some_iff.1 hv).1; rwa [List.length_map] at this
  have hc := h.cell gT j (by unfold tabZ; rw [List.length_map]; exact hj)
  refine ⟨_, rfl, ?_⟩
  rw [show (⟨0, 0, none⟩ : Addr).add j = ⟨0, j, none⟩ by simp [Addr.add_lit], hc]
  rw [← hv]
  unfold tabZ
  generalize Lib.deBruijn64tab = L at *
  simp [List.getD, List.getElem?_eq_getElem hj, bv]
set_option maxRecDepth 100000 in
set_option maxHeartbeats 2000000 in
theorem lifted (os : Os) (started : os.Started) (H : Type) (enc : TypeId × Value → H) (F : Stop.Interp) :
    ReturnsInHanded {} Tryd.checked os 5 .any ((OpenSpec.ofChange Rows.strataKnownSpec).preRow enc Tryd.prog Tryd.f5 Rows.strataKnownRow.domain false Rows.strataKnownRow.laid) (((OpenSpec.ofChange Rows.strataKnownSpec).at F).post enc Tryd.prog Tryd.f5 false true false false) := by
  refine returnsInHanded_of_row (C := Tryd.checked) (s := OpenSpec.ofChange Rows.strataKnownSpec) own started (by kernel_rfl) Tryd.func5
    (witness_row_at (enc := enc) (C := Tryd.checked) false (laidWorld os) #[] rfl (by kernel_rfl) (by kernel_rfl) (by kernel_rfl) (witness_row os enc)) ?_
  intro W base args ds gs before hval0 hW _ hcond0 hsz0 hL hsh _
  have hval : ∀ (j : Nat) t v, Tryd.f5.params[j]? = some t → args[j]? = some v → Value.okWide Tryd.prog W .any base t v := hval0
  have hW' := hW
  obtain ⟨p, q, hA0, hV, rfl, _, _⟩ := hW
  have hA : DataW.TrodAll enc Tryd.prog W 0 (fun _ => true) true Tryd.f5.params.toList args.toList ds p := hA0
  rw [Tryd.params5] at hA hval
  obtain ⟨hargs, rfl, rfl⟩ := trodAll_nil hA
  obtain rfl : args = #[] := by cases args; simp_all
  obtain ⟨rfl, rfl⟩ := trodVars_none hV
  have htab : Lib.TabIs Tryd.prog W "math/bits.deBruijn64tab" .u8 tabZ := Lib.tabIs_of_head gT gTType Tryd.underlying130 Tryd.underlying5 cellsE cellsT hL
  clear hA0 hval0 hsz0
  refine (lawStrataKnown_any (tab_ok htab)).mono fun e W' ⟨he, bel⟩ => ?_
  subst he
  exact ⟨_, rfl, _, _, _, [], _, [], hW', trodAll_mk1 (shut_bool Tryd.underlying4 _), trodAll_mk0, rfl, bel.frame _, fun h => by cases h⟩
theorem over : Rows.strataKnownRow.holds Tryd.pinned (OpenSpec.ofChange Rows.strataKnownSpec) :=
  OpenClaim.holds_of_cond 5 Tryd.f5 rfl rfl rfl rfl rfl rfl rfl ⟨rfl, rfl, rfl, rfl, rfl⟩ rfl rfl rfl rfl rfl (by kernel_rfl) Tryd.func5 (by kernel_rfl)
    (of_decide_eq_true (by kernel_rfl)) (by unfold Func.isWrapper; first | (rw [if_pos (by decide +kernel)]; kernel_rfl) | (rw [if_neg (by decide +kernel)]; exact ⟨rfl, rfl⟩))
    (fun os started H enc _ F0 => by rw [OpenClaim.pre_eq_preRow]; exact lifted os started H enc F0)
end Go.Proofs.YtgmeagkolahkoaaDoor.strataKnown
namespace Go.Proofs.YtgmeagkolahkoaaDoor
theorem strataKnown_holds : Rows.StrataKnownSaid := strataKnown.over
#print axioms strataKnown_holds
end Go.Proofs.YtgmeagkolahkoaaDoor
