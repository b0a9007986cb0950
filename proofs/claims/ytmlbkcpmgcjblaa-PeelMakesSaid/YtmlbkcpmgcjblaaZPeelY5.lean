/- Joined: PeelH, TabO, PeelI, PeelJ, PeelL, Row, Row2. -/
import Derived.ProofKit
import Derived.OpenShut
import Derived.ShutString
import Derived.ChangeOld
import Derived.SizedLaws
import Derived.ChangeSlices
import Derived.Carry
import Derived.Test.YtmlbkcpmgcjblaaZPeelY4
/- peel.All by types: the walk. -/
namespace Go.Proofs.Ytmlbkcpmgcjblaa
open Go.RowKit

theorem sl_nil (w : World) (e : TypeId) : SlP w e nilS 0 [] := (Seg.nil w e 1).sl
section
variable {P : Program} {ops : Array Oper} {Q : Exit → Act → World → Prop} {N : Nat} {Γ : Ctx} {a : Act} {w : World} {o : Oper} {rest : List Oper}
/-- An operation whose guard says no. -/
theorem tlOpN {j s d : Nat} {b c : Bool} (hF : Fr N Γ a w) (hg : o.guard = some (j, c)) (hj : slotOf ops j = some s) (hs : look Γ s = some (Ty.ex (.bool b))) (hbc : (b == c) = false) (hd : o.dst = some d) (hN : decide (d < N) = true) (hk : ∀ a', Fr N ((d, Ty.ex undef) :: Γ) a' w → wpList P ops Q rest a' w) : wpList P ops Q (o :: rest) a w := by
  refine wpList_step fun K hK => ?_
  obtain ⟨v, hv, e⟩ := hF.val s _ hs
  have e : v = .bool b := e
  subst e
  rw [if_neg (by cases b <;> cases c <;> simp at hbc <;> simp [Region.wanted, hg, yielded_of hj hv])]
  rw [hd]
  exact hK _ _ (hk _ (hF.put (of_decide_eq_true hN) (Below.refl _ _) rfl))
end
section
variable {w0 : World} {Γ : Ctx} {o : Oper}
theorem cBuildI {P : Program} {t : TypeId} {i : Nat} {x : Operand} {v z : Value} (ho : o.op = .build t #[(i, x)]) (hx : OpT Γ x (Ty.ex v)) (hr : ∀ w : World, (Instr.build t #[(i, v)]).run P w = .ok z w) : OpOk P w0 Γ o (Ty.ex z) :=
  .val fun a w _ hs => by
    obtain ⟨u, h1, h2⟩ := hs x _ (by simp [ho, Op.operands]) hx
    have h2 : u = v := h2
    subst h2
    refine ⟨_, rfl, ?_⟩
    unfold execOp
    simp [ho, h1, hr]
theorem cBuildRes {x y z : Operand} {P M : List Sm} {seed : Nat} {s : Value} {L : List Cl} {n1 n2 : Nat} (ho : o.op = .build ResT #[(0, x), (1, y), (2, z)]) (hx : OpT Γ x (Ty.seg w0 34 32 n1 (flat P))) (hy : OpT Γ y (Ty.seg w0 34 32 n2 (flat M))) (hz : OpT Γ z (Ty.ex (.agg #[.int .u64 (seed : Int), s]))) (hs : SlP w0 87 s L.length (flatC L)) (h1 : n1 = P.length) (h2 : n2 = M.length) : OpOk Try.prog w0 Γ o (Ty.res P M seed L) :=
  .val fun a w hb hs' => by
    subst h1 h2
    obtain ⟨p, k1, S1, k2, _⟩ := hs' x _ (by simp [ho, Op.operands]) hx
    obtain ⟨q, k3, S2, k4, _⟩ := hs' y _ (by simp [ho, Op.operands]) hy
    obtain ⟨e, k5, k6⟩ := hs' z _ (by simp [ho, Op.operands]) hz
    have k6 : e = .agg #[.int .u64 (seed : Int), s] := k6
    subst k6
    refine ⟨_, ⟨p, q, s, rfl, k2.sl, k4.sl, (Ty.cls 87 L).below hs hb⟩, ?_⟩
    unfold execOp
    simp only [ho]
    have e1 : ((#[(0, x), (1, y), (2, z)] : Array (Nat × Operand)).map fun (i, x) => (i, a.eval x)) = #[(0, p), (1, q), (2, .agg #[.int .u64 (seed : Int), s])] := by simp [k1, k3, k5]
    rw [e1, Sem.run_bind, buildR (seed : Int) (seg_isA k2) (seg_isA k4) (sl_isA hs) w]
    rfl
end
theorem run_stop {seed m : Nat} {s : Pst} (h : ¬ nextI seed s.L < s.L.length) : Pst.run seed m s = s := by
  cases m with
  | zero => rfl
  | succ m => unfold Pst.run; rw [if_neg h]
theorem mem_plus {x y : Sm} {p q S : List Sm} (h : y ∈ S ↔ y ∈ p ∨ y ∈ q) : y ∈ x :: S ↔ y ∈ p ++ [x] ∨ y ∈ q := by
  simp only [List.mem_cons, List.mem_append, List.not_mem_nil, or_false, h]
  by_cases a : y = x <;> by_cases b : y ∈ p <;> by_cases c : y ∈ q <;> simp [a, b, c]
theorem mem_minus {x y : Sm} {p q S : List Sm} (h : y ∈ S ↔ y ∈ p ∨ y ∈ q) : y ∈ x :: S ↔ y ∈ p ∨ y ∈ q ++ [x] := by
  simp only [List.mem_cons, List.mem_append, List.not_mem_nil, or_false, h]
  by_cases a : y = x <;> by_cases b : y ∈ p <;> by_cases c : y ∈ q <;> simp [a, b, c]
theorem res_one {n : Int} {p q s : Value} (hp : ∃ A l c, p = .slice A l c) (hq : ∃ A l c, q = .slice A l c) (hs : ∃ A l c, s = .slice A l c) : (Value.agg #[p, q, .int .u64 n, s]).cells.all (·.oneCell') = true := by
  obtain ⟨A, l, c, rfl⟩ := hs
  obtain ⟨A1, l1, c1, rfl⟩ := hp
  obtain ⟨A2, l2, c2, rfl⟩ := hq
  simp [Value.cells, Value.oneCell']
theorem hatT {seed bm : Nat} {sL sP s0 s1 : Value} : ∀ w v, (Ty.at_ PeelT (peelCells seed sL sP bm s0 s1)).p w v → (Ty.at_ PeelT [.int .u64 (seed : Int), sL]).p w v := fun w v h => at_pre (xs := [.int .u64 (seed : Int), sL]) (ys := [sP, .map (some bm), s0, s1]) w v h
set_option maxRecDepth 100000 in
set_option maxHeartbeats 8000000 in
theorem pall_ty (seed : Nat) (L : List Cl) (hsd : seed < 18446744073709551616) : Fn1 Try.prog 61 (Ty.tab 87 seed L) (Ty.tup [Ty.res (resP seed L) (resM seed L) (resS seed L) (resL seed L), Ty.ex (.int .i64 (resN seed L))]) := by
  refine ⟨fun args w => by kernel_rfl, fun w v ⟨s, hv, hs⟩ => ?_⟩
  subst hv
  have hG := tgood_ty seed L
  refine enter_ty 88 [Ty.ex (.agg #[.int .u64 (seed : Int), s])] Try.func61 rfl (by kernel_rfl) ⟨rfl, trivial⟩ fun a hF => ?_
  have hB := Below.refl w.heap.size w
  let TL := Ty.cls 87 L
  repeat with_reducible first | refine wp_seq ?_ | refine nThen ?_ | refine nBlk ?_ | refine wp_skip ?_ | refine wp_block ?_ | refine wp_exit ?_ | refine xThen ?_ | refine xHere ?_ | refine xFar (by decide) ?_ | refine wp_ret ?_ | refine rThen ?_
  refine' reg_all hF ?_ mixed (by kernel_rfl) ?_
  rotate_left
  · repeat (first
        | exact Line.nil
        | (refine' Line.cons rfl (.no rfl rfl rfl rfl rfl rfl) ?_; rotate_left)
        | (refine' Line.cons rfl (.new rfl rfl (run_alloc_i infoRes) rfl) ?_; rotate_left)
        | ((first | refine' Line.cons rfl (.run rfl rfl ?_) ?_ | refine' Line.cons rfl (.yes rfl rfl rfl rfl ?_) ?_)
           any_goals (first | exact cMove rfl rfl | exact cAssign rfl rfl | exact cNot rfl rfl | exact cBoxTab rfl rfl | exact cPickT rfl rfl rfl | exact cPickF rfl rfl rfl | exact cLss rfl rfl rfl | exact cLeq rfl rfl rfl)
           rotate_left))
  intro a w1 hF hb hN
  have hBs := hB.size
  replace hB := hB.trans (hb.mono hB.size)
  dsimp only [ext, Option.getD] at hF
  repeat with_reducible first | refine wp_seq ?_ | refine nThen ?_ | refine nBlk ?_ | refine wp_skip ?_ | refine wp_block ?_ | refine wp_exit ?_ | refine xThen ?_ | refine xHere ?_ | refine xFar (by decide) ?_ | refine wp_ret ?_ | refine rThen ?_
  obtain ⟨z, ⟨g2, rfl, hg2, hb2⟩, hF⟩ := hF.open (s := 2) rfl
  have hg2 : w.heap.size ≤ g2 := hg2
  have hs1 := TL.below hs hB
  have ht1 : (Ty.tab 87 seed L).p w1 (.agg #[.int .u64 (seed : Int), s]) := ⟨s, rfl, hs1⟩
  repeat with_reducible first | refine wp_seq ?_ | refine nThen ?_ | refine nBlk ?_ | refine wp_skip ?_ | refine wp_block ?_ | refine wp_exit ?_ | refine xThen ?_ | refine xHere ?_ | refine xFar (by decide) ?_ | refine wp_ret ?_ | refine rThen ?_
  by_cases hok : goodN (L.length : Int) = true
  rotate_left
  · have hok : goodN (L.length : Int) = false := by simpa using hok
    have hpk : peelOk seed L = false := by unfold peelOk; rw [hok]; rfl
    rw [show resP seed L = [] by unfold resP; rw [hpk]; rfl, show resM seed L = [] by unfold resM; rw [hpk]; rfl, show resS seed L = 0 by unfold resS; rw [hok]; rfl, show resL seed L = [] by unfold resL; rw [hok]; rfl, show resN seed L = 1 by unfold resN; rw [hok]; rfl]
    rw [hok] at hG
    refine' reg_all hF ?_ mixed (by kernel_rfl) ?_
    rotate_left
    · repeat (first
          | exact Line.nil
          | (refine' Line.cons rfl (.no rfl rfl rfl rfl rfl rfl) ?_; rotate_left)
          | ((first | refine' Line.cons rfl (.run rfl rfl ?_) ?_ | refine' Line.cons rfl (.yes rfl rfl rfl rfl ?_) ?_)
             any_goals (first | exact cMove rfl rfl | exact cAssign rfl rfl | exact cNot rfl rfl | exact cLoadT46 rfl (.t rfl) | exact cCallH1 rfl (.l rfl ht1) hG | exact cPickT rfl rfl rfl | exact cPickF rfl rfl rfl | exact cLss rfl rfl rfl | exact cLeq rfl rfl rfl)
             rotate_left))
    intro a w2 hF hb hN
    have hBs := hB.size
    replace hB := hB.trans (hb.mono hB.size)
    dsimp only [ext, Option.getD] at hF
    repeat with_reducible first | refine wp_seq ?_ | refine nThen ?_ | refine nBlk ?_ | refine wp_skip ?_ | refine wp_block ?_ | refine wp_exit ?_ | refine xThen ?_ | refine xHere ?_ | refine xFar (by decide) ?_ | refine wp_ret ?_ | refine rThen ?_
    refine cond_t hF rfl ?_
    repeat with_reducible first | refine wp_seq ?_ | refine nThen ?_ | refine nBlk ?_ | refine wp_skip ?_ | refine wp_block ?_ | refine wp_exit ?_ | refine xThen ?_ | refine xHere ?_ | refine xFar (by decide) ?_ | refine wp_ret ?_ | refine rThen ?_
    replace hb2 := hb2.below hb
    refine' region_ty 1 mixed (by kernel_rfl) hF ?_ ?_
    rotate_left
    · simp only [List.take_succ_cons, List.take_zero]
      repeat (first
          | exact Line.nil
          | (refine' Line.cons rfl (.no rfl rfl rfl rfl rfl rfl) ?_; rotate_left)
          | ((first | refine' Line.cons rfl (.run rfl rfl ?_) ?_ | refine' Line.cons rfl (.yes rfl rfl rfl rfl ?_) ?_)
             any_goals (first | exact cMove rfl rfl | exact cAssign rfl rfl | exact cNot rfl rfl | exact cBuildE rfl (fun w => buildR0 w) | exact cPickT rfl rfl rfl | exact cPickF rfl rfl rfl | exact cLss rfl rfl rfl | exact cLeq rfl rfl rfl)
             rotate_left))
    intro a w3 hF hb hN
    have hBs := hB.size
    replace hB := hB.trans (hb.mono hB.size)
    simp only [List.take_succ_cons, List.take_zero, List.drop_succ_cons, List.drop_zero] at hF hN ⊢
    dsimp only [ext, Option.getD] at hF
    replace hb2 := hb2.below hb
    refine tlStoreV (Δ := [(2, Ty.ex (.pointer (some ⟨g2, 0, none⟩)))]) hF rfl rfl rfl rfl (hF.getEx (s := 12) rfl) hb2 rfl sizeRes (by simp [Value.cells, Value.oneCell']) (hF.keep [2]) rfl ?_
    intro w4 hF hb2 hkx
    replace hB := below_own hB hkx (by intro y hy; simp only [List.mem_singleton] at hy; omega)
    refine' tlOp hF rfl rfl rfl ?_ ?_
    rotate_left
    · first | exact cMove rfl rfl | exact cAssign rfl rfl | exact cPickT rfl rfl rfl | exact cPickF rfl rfl rfl | exact cNot rfl rfl | exact cLss rfl rfl rfl | exact cLeq rfl rfl rfl
    intro a w5 hF hb
    have hBs := hB.size
    replace hB := hB.trans (hb.mono hB.size)
    try (refine wpList_nil ?_)
    repeat with_reducible first | refine wp_seq ?_ | refine nThen ?_ | refine nBlk ?_ | refine wp_skip ?_ | refine wp_block ?_ | refine wp_exit ?_ | refine xThen ?_ | refine xHere ?_ | refine xFar (by decide) ?_ | refine wp_ret ?_ | refine rThen ?_
    refine retCell2 hF rfl rfl rfl (hb2.below hb) Try.underlying83 rfl sizeRes ?_
    exact ⟨_, rfl, ⟨[_, _], rfl, ⟨nilS, nilS, nilS, rfl, sl_nil _ _, sl_nil _ _, sl_nil _ _⟩, rfl, trivial⟩, hB⟩
  rw [hok] at hG
  refine' reg_all hF ?_ mixed (by kernel_rfl) ?_
  rotate_left
  · repeat (first
        | exact Line.nil
        | (refine' Line.cons rfl (.no rfl rfl rfl rfl rfl rfl) ?_; rotate_left)
        | ((first | refine' Line.cons rfl (.run rfl rfl ?_) ?_ | refine' Line.cons rfl (.yes rfl rfl rfl rfl ?_) ?_)
           any_goals (first | exact cMove rfl rfl | exact cAssign rfl rfl | exact cNot rfl rfl | exact cLoadT46 rfl (.t rfl) | exact cCallH1 rfl (.l rfl ht1) hG | exact cPickT rfl rfl rfl | exact cPickF rfl rfl rfl | exact cLss rfl rfl rfl | exact cLeq rfl rfl rfl)
           rotate_left))
  intro a w2 hF hb hN
  have hBs := hB.size
  replace hB := hB.trans (hb.mono hB.size)
  dsimp only [ext, Option.getD] at hF
  repeat with_reducible first | refine wp_seq ?_ | refine nThen ?_ | refine nBlk ?_ | refine wp_skip ?_ | refine wp_block ?_ | refine wp_exit ?_ | refine xThen ?_ | refine xHere ?_ | refine xFar (by decide) ?_ | refine wp_ret ?_ | refine rThen ?_
  replace hb2 := hb2.below hb
  refine cond_f hF rfl ?_
  repeat with_reducible first | refine wp_seq ?_ | refine nThen ?_ | refine nBlk ?_ | refine wp_skip ?_ | refine wp_block ?_ | refine wp_exit ?_ | refine xThen ?_ | refine xHere ?_ | refine xFar (by decide) ?_ | refine wp_ret ?_ | refine rThen ?_
  obtain ⟨N, hN, hN1, hN2⟩ := goodN_rng hok
  have hLl : L.length ≤ 1024 := by omega
  have hs2 := TL.below hs hB
  obtain ⟨p1, hp1, hF⟩ := hF.open (s := 1) rfl
  clear hs hs1 ht1 hG
  have hw2 := hB.size
  have hB0 := hB
  obtain ⟨lo, elo⟩ : ∃ lo, lo = w2.heap.size := ⟨_, rfl⟩
  replace hB := Below.refl w2.heap.size w2
  refine' reg_all hF ?_ mixed (by kernel_rfl) ?_
  rotate_left
  · repeat (first
        | exact Line.nil
        | (refine' Line.cons rfl (.no rfl rfl rfl rfl rfl rfl) ?_; rotate_left)
        | ((first | refine' Line.cons rfl (.run rfl rfl ?_) ?_ | refine' Line.cons rfl (.yes rfl rfl rfl rfl ?_) ?_)
           any_goals (first | exact cMove rfl rfl | exact cAssign rfl rfl | exact cNot rfl rfl | exact cFldS46 rfl (.l rfl hp1) | exact cLoadU64 rfl (.t rfl) | exact cFldL46 rfl (.l rfl hp1) | exact cRowOf46 rfl (.t rfl) | exact cCallS1 rfl (.l rfl hs2) (cloneC_ty L (by omega)) | exact cBuildTabO (L := L) rfl rfl rfl (fun s hs w => buildT46 _ hs w) | exact cLenH rfl (.l rfl hs2) (Ty.sl_isSl _ _ _) Try.underlying39 | exact cMakeBools rfl rfl rfl (by omega) | exact cMakeMapS rfl | exact cBuildE rfl (fun w => buildSL2 w) | exact cBuildPeel (L := L) (seed := seed) rfl rfl rfl rfl rfl | exact cBoxPeel rfl rfl | exact cPickT rfl rfl rfl | exact cPickF rfl rfl rfl | exact cLss rfl rfl rfl | exact cLeq rfl rfl rfl)
           rotate_left))
  intro a w3 hF hb hN
  have hBs := hB.size
  replace hB := hB.trans (hb.mono hB.size)
  dsimp only [ext, Option.getD] at hF
  repeat with_reducible first | refine wp_seq ?_ | refine nThen ?_ | refine nBlk ?_ | refine wp_skip ?_ | refine wp_block ?_ | refine wp_exit ?_ | refine xThen ?_ | refine xHere ?_ | refine xFar (by decide) ?_ | refine wp_ret ?_ | refine rThen ?_
  obtain ⟨z, ⟨gp, sL, sP, bm, SL, SP, rfl, hM, hO⟩, hF⟩ := hF.open (s := 4) rfl
  rw [← elo] at hO hB
  have hL := hB
  have hg2l : g2 < lo := by rw [elo]; exact hb2.lt
  clear hs2 hp1
  have hat := hM.at_
  have hsP := hM.pure.sl
  replace hB := Below.refl w3.heap.size w3
  repeat with_reducible first | refine wp_seq ?_ | refine nThen ?_ | refine nBlk ?_ | refine wp_skip ?_ | refine wp_block ?_ | refine wp_exit ?_ | refine xThen ?_ | refine xHere ?_ | refine xFar (by decide) ?_ | refine wp_ret ?_ | refine rThen ?_
  refine' reg_all hF ?_ mixed (by kernel_rfl) ?_
  rotate_left
  · repeat (first
        | exact Line.nil
        | (refine' Line.cons rfl (.no rfl rfl rfl rfl rfl rfl) ?_; rotate_left)
        | ((first | refine' Line.cons rfl (.run rfl rfl ?_) ?_ | refine' Line.cons rfl (.yes rfl rfl rfl rfl ?_) ?_)
           any_goals (first | exact cMove rfl rfl | exact cAssign rfl rfl | exact cNot rfl rfl | exact cNilOk rfl rfl | exact cPeelP rfl (.l rfl hat) | exact cLoad1 (u := sP) rfl (.t rfl) (pts_at _ _) Try.underlying124 rfl | exact cLenH rfl (.l rfl hsP) (Ty.sl_isSl _ _ _) Try.underlying124 | exact cPickT rfl rfl rfl | exact cPickF rfl rfl rfl | exact cLss rfl rfl rfl | exact cLeq rfl rfl rfl)
           rotate_left))
  intro a w4 hF hb hN
  have hBs := hB.size
  replace hB := hB.trans (hb.mono hB.size)
  dsimp only [ext, Option.getD] at hF
  repeat with_reducible first | refine wp_seq ?_ | refine nThen ?_ | refine nBlk ?_ | refine wp_skip ?_ | refine wp_block ?_ | refine wp_exit ?_ | refine xThen ?_ | refine xHere ?_ | refine xFar (by decide) ?_ | refine wp_ret ?_ | refine rThen ?_
  replace hM := hM.below hb
  have hlo4 : lo ≤ w3.heap.size := by rw [elo]; exact hL.size
  replace hL := hL.trans (hb.mono hlo4)
  have hen : Enters Try.prog 97 := fun args w => by kernel_rfl
  have het : Enters Try.prog 99 := fun args w => by kernel_rfl
  refine loop_ty (fun m a wr => ∃ i : Nat, i + m = L.length ∧ Fr 88 [(2, Ty.ex (.pointer (some ⟨g2, 0, none⟩))), (4, Ty.ex (.pointer (some ⟨gp, 0, none⟩))), (31, Ty.ex (.int .i64 (L.length : Int))), (32, Ty.ex (.int .i64 (i : Int)))] a wr ∧ Below lo w2 wr ∧ PeelMem wr gp seed sL sP bm nilS nilS L (mixB seed L i) [] [] [] SL SP [] [] 0) L.length ?_ ?_
  · exact ⟨0, by omega, hF.keep [2, 4, 31, 32], hL, by rw [mixB_zero]; exact hM⟩
  clear hF hB hL hM hat hsP hb hBs
  rintro m a wr ⟨i, hi, hF, hL, hM⟩
  have hB := Below.refl wr.heap.size wr
  have hlor : lo ≤ wr.heap.size := by rw [elo]; exact hL.size
  have hL0 := hL
  repeat with_reducible first | refine wp_seq ?_ | refine nThen ?_ | refine nBlk ?_ | refine wp_skip ?_ | refine wp_block ?_ | refine wp_exit ?_ | refine xThen ?_ | refine xHere ?_ | refine xFar (by decide) ?_ | refine wp_ret ?_ | refine rThen ?_
  refine' reg_all hF ?_ mixed (by kernel_rfl) ?_
  rotate_left
  · repeat (first
        | exact Line.nil
        | (refine' Line.cons rfl (.no rfl rfl rfl rfl rfl rfl) ?_; rotate_left)
        | ((first | refine' Line.cons rfl (.run rfl rfl ?_) ?_ | refine' Line.cons rfl (.yes rfl rfl rfl rfl ?_) ?_)
           any_goals (first | exact cMove rfl rfl | exact cAssign rfl rfl | exact cNot rfl rfl | exact cPickT rfl rfl rfl | exact cPickF rfl rfl rfl | exact cLss rfl rfl rfl | exact cLeq rfl rfl rfl)
           rotate_left))
  intro a w10 hF hb hN
  have hBs := hB.size
  replace hB := hB.trans (hb.mono hB.size)
  dsimp only [ext, Option.getD] at hF
  repeat with_reducible first | refine wp_seq ?_ | refine nThen ?_ | refine nBlk ?_ | refine wp_skip ?_ | refine wp_block ?_ | refine wp_exit ?_ | refine xThen ?_ | refine xHere ?_ | refine xFar (by decide) ?_ | refine wp_ret ?_ | refine rThen ?_
  replace hM := hM.below hb
  replace hL := hL.trans (hb.mono hlor)
  refine cond_ty hF rfl (fun hlt => ?_) (fun hge => ?_)
  · have hlt : i < L.length := by have := of_decide_eq_true hlt; omega
    repeat with_reducible first | refine wp_seq ?_ | refine nThen ?_ | refine nBlk ?_ | refine wp_skip ?_ | refine wp_block ?_ | refine wp_exit ?_ | refine xThen ?_ | refine xHere ?_ | refine xFar (by decide) ?_ | refine wp_ret ?_ | refine rThen ?_
    refine' reg_all hF ?_ mixed (by kernel_rfl) ?_
    rotate_left
    · repeat (first
          | exact Line.nil
          | (refine' Line.cons rfl (.no rfl rfl rfl rfl rfl rfl) ?_; rotate_left)
          | ((first | refine' Line.cons rfl (.run rfl rfl ?_) ?_ | refine' Line.cons rfl (.yes rfl rfl rfl rfl ?_) ?_)
             any_goals (first | exact cMove rfl rfl | exact cAssign rfl rfl | exact cNot rfl rfl | exact cPickT rfl rfl rfl | exact cPickF rfl rfl rfl | exact cLss rfl rfl rfl | exact cLeq rfl rfl rfl)
             rotate_left))
    intro a w11 hF hb hN
    have hBs := hB.size
    replace hB := hB.trans (hb.mono hB.size)
    dsimp only [ext, Option.getD] at hF
    repeat with_reducible first | refine wp_seq ?_ | refine nThen ?_ | refine nBlk ?_ | refine wp_skip ?_ | refine wp_block ?_ | refine wp_exit ?_ | refine xThen ?_ | refine xHere ?_ | refine xFar (by decide) ?_ | refine wp_ret ?_ | refine rThen ?_
    replace hM := hM.below hb
    have hlo11 : lo ≤ w11.heap.size := Nat.le_trans hlor hB.size
    refine' region_ty 2 mixed (by kernel_rfl) hF ?_ ?_
    rotate_left
    · simp only [List.take_succ_cons, List.take_zero]
      repeat (first
          | exact Line.nil
          | (refine' Line.cons rfl (.no rfl rfl rfl rfl rfl rfl) ?_; rotate_left)
          | ((first | refine' Line.cons rfl (.run rfl rfl ?_) ?_ | refine' Line.cons rfl (.yes rfl rfl rfl rfl ?_) ?_)
             any_goals (first | exact cMove rfl rfl | exact cAssign rfl rfl | exact cNot rfl rfl | exact cPickT rfl rfl rfl | exact cPickF rfl rfl rfl | exact cLss rfl rfl rfl | exact cLeq rfl rfl rfl)
             rotate_left))
    intro a w12 hF hb hN
    have hBs := hB.size
    replace hB := hB.trans (hb.mono hB.size)
    simp only [List.take_succ_cons, List.take_zero, List.drop_succ_cons, List.drop_zero] at hF hN ⊢
    dsimp only [ext, Option.getD] at hF
    replace hM := hM.below hb
    replace hL : Below lo w2 w12 := hL0.trans (hB.mono hlor)
    have hlk := look_any hM (mixB_len (by omega)) hsd (i := i) hlt
    rw [mixB_set hlt] at hlk
    refine tlCall rfl rfl rfl (args := #[.pointer (some ⟨gp, 0, none⟩), ivn i]) ?_ hen (R := fun u w' => PeelMem w' gp seed sL sP bm nilS nilS L (mixB seed L (i + 1)) [] [] [] SL SP [] [] 0 ∧ Keeps SP w12 w') ?_ ?_
    · simp only [List.map_toArray, List.map_cons, List.map_nil, hF.getEx (s := 35) rfl, hF.getEx (s := 36) rfl]; rfl
    · exact hlk.mono fun e w' ⟨h1, h2, h3⟩ => ⟨_, h1, h2, h3⟩
    rintro z w13 ⟨hM2, hk13⟩
    have hF := ((hF.keep [2, 4, 31, 32]).keepSeg hk13 hM.pure rfl).put (d := 37) (by decide) (Below.refl _ _) (V := Ty.ex z) rfl
    have hlo12 : lo ≤ w12.heap.size := Nat.le_trans hlor hB.size
    replace hL := below_lo hL (by rw [elo]; exact Nat.le_refl _) hk13 hO.pure
    replace hB := Below.refl w13.heap.size w13
    have hlo13 : lo ≤ w13.heap.size := by rw [elo]; exact hL.size
    refine wpList_nil ?_
    repeat with_reducible first | refine wp_seq ?_ | refine nThen ?_ | refine nBlk ?_ | refine wp_skip ?_ | refine wp_block ?_ | refine wp_exit ?_ | refine xThen ?_ | refine xHere ?_ | refine xFar (by decide) ?_ | refine wp_ret ?_ | refine rThen ?_
    refine' reg_all hF ?_ mixed (by kernel_rfl) ?_
    rotate_left
    · repeat (first
          | exact Line.nil
          | (refine' Line.cons rfl (.no rfl rfl rfl rfl rfl rfl) ?_; rotate_left)
          | ((first | refine' Line.cons rfl (.run rfl rfl ?_) ?_ | refine' Line.cons rfl (.yes rfl rfl rfl rfl ?_) ?_)
             any_goals (first | exact cMove rfl rfl | exact cAssign rfl rfl | exact cNot rfl rfl | exact cAdd (r := ((i + 1 : Nat) : Int)) rfl rfl rfl (by omega) | exact cPickT rfl rfl rfl | exact cPickF rfl rfl rfl | exact cLss rfl rfl rfl | exact cLeq rfl rfl rfl)
             rotate_left))
    intro a w14 hF hb hN
    have hBs := hB.size
    replace hB := hB.trans (hb.mono hB.size)
    dsimp only [ext, Option.getD] at hF
    repeat with_reducible first | refine wp_seq ?_ | refine nThen ?_ | refine nBlk ?_ | refine wp_skip ?_ | refine wp_block ?_ | refine wp_exit ?_ | refine xThen ?_ | refine xHere ?_ | refine xFar (by decide) ?_ | refine wp_ret ?_ | refine rThen ?_
    exact ⟨m - 1, by omega, i + 1, by omega, hF.keep [2, 4, 31, 32], hL.trans (hb.mono hlo13), hM2.below hb⟩
  have hge : ¬ i < L.length := by have := of_decide_eq_false hge; omega
  obtain rfl : i = L.length := by omega
  rw [mixB_all] at hM
  repeat with_reducible first | refine wp_seq ?_ | refine nThen ?_ | refine nBlk ?_ | refine wp_skip ?_ | refine wp_block ?_ | refine wp_exit ?_ | refine xThen ?_ | refine xHere ?_ | refine xFar (by decide) ?_ | refine wp_ret ?_ | refine rThen ?_
  have hlo10 : lo ≤ w10.heap.size := Nat.le_trans hlor hB.size
  replace hB := Below.refl w10.heap.size w10
  refine' reg_all hF ?_ mixed (by kernel_rfl) ?_
  rotate_left
  · repeat (first
        | exact Line.nil
        | (refine' Line.cons rfl (.no rfl rfl rfl rfl rfl rfl) ?_; rotate_left)
        | ((first | refine' Line.cons rfl (.run rfl rfl ?_) ?_ | refine' Line.cons rfl (.yes rfl rfl rfl rfl ?_) ?_)
           any_goals (first | exact cMove rfl rfl | exact cAssign rfl rfl | exact cNot rfl rfl | exact cPickT rfl rfl rfl | exact cPickF rfl rfl rfl | exact cLss rfl rfl rfl | exact cLeq rfl rfl rfl)
           rotate_left))
  intro a w20 hF hb hN
  have hBs := hB.size
  replace hB := hB.trans (hb.mono hB.size)
  dsimp only [ext, Option.getD] at hF
  repeat with_reducible first | refine wp_seq ?_ | refine nThen ?_ | refine nBlk ?_ | refine wp_skip ?_ | refine wp_block ?_ | refine wp_exit ?_ | refine xThen ?_ | refine xHere ?_ | refine xFar (by decide) ?_ | refine wp_ret ?_ | refine rThen ?_
  refine' reg_all hF ?_ mixed (by kernel_rfl) ?_
  rotate_left
  · repeat (first
        | exact Line.nil
        | (refine' Line.cons rfl (.no rfl rfl rfl rfl rfl rfl) ?_; rotate_left)
        | ((first | refine' Line.cons rfl (.run rfl rfl ?_) ?_ | refine' Line.cons rfl (.yes rfl rfl rfl rfl ?_) ?_)
           any_goals (first | exact cMove rfl rfl | exact cAssign rfl rfl | exact cNot rfl rfl | exact cPickT rfl rfl rfl | exact cPickF rfl rfl rfl | exact cLss rfl rfl rfl | exact cLeq rfl rfl rfl)
           rotate_left))
  intro a w21 hF hb hN
  have hBs := hB.size
  replace hB := hB.trans (hb.mono hB.size)
  dsimp only [ext, Option.getD] at hF
  repeat with_reducible first | refine wp_seq ?_ | refine nThen ?_ | refine nBlk ?_ | refine wp_skip ?_ | refine wp_block ?_ | refine wp_exit ?_ | refine xThen ?_ | refine xHere ?_ | refine xFar (by decide) ?_ | refine wp_ret ?_ | refine rThen ?_
  replace hM := hM.below hB
  replace hL := hL.trans (hB.mono hlo10)
  refine wp_mono (Q := fun e a w' => e = .exit 2 ∧ ∃ S s0 s1 S0 S1 n, Fr 88 [(2, Ty.ex (.pointer (some ⟨g2, 0, none⟩))), (4, Ty.ex (.pointer (some ⟨gp, 0, none⟩))), (6, Ty.ex (.bool (peelS seed L).once))] a w' ∧ Below lo w2 w' ∧ PeelMem w' gp seed sL sP bm s0 s1 (peelS seed L).L (pureB seed (peelS seed L).L) S (peelS seed L).minus (peelS seed L).plus SL SP S0 S1 n) ?_ ?_
  · refine loop_ty (fun m a wr => ∃ (n : Nat) (st : Pst) (S : List Sm) (s0 s1 : Value) (S0 S1 : List Nat), n + m = 1025 ∧ Fr 88 [(2, Ty.ex (.pointer (some ⟨g2, 0, none⟩))), (4, Ty.ex (.pointer (some ⟨gp, 0, none⟩))), (6, Ty.ex (.bool st.once)), (7, Ty.ex (.int .i64 (n : Int)))] a wr ∧ Below lo w2 wr ∧ PeelMem wr gp seed sL sP bm s0 s1 st.L (pureB seed st.L) S st.minus st.plus SL SP S0 S1 n ∧ PeelOwn lo gp bm SL SP S0 S1 ∧ (∀ y, y ∈ S ↔ y ∈ st.plus ∨ y ∈ st.minus) ∧ st.L.length = L.length ∧ Pst.run seed m st = peelS seed L ∧ st.plus.length + st.minus.length = n) 1025 ?_ ?_
    · exact ⟨0, ⟨L, [], [], true⟩, [], nilS, nilS, [], [], rfl, hF.keep [2, 4, 6, 7], hL, hM, hO, by simp, rfl, rfl, rfl⟩
    clear hF hB hL hM hO hb hBs
    rintro m a wr ⟨n, st, S, s0, s1, S0, S1, hn, hF, hL, hM, hO, hS, hlen, hrun, hcnt⟩
    have hB := Below.refl wr.heap.size wr
    have hlor : lo ≤ wr.heap.size := by rw [elo]; exact hL.size
    repeat with_reducible first | refine wp_seq ?_ | refine nThen ?_ | refine nBlk ?_ | refine wp_skip ?_ | refine wp_block ?_ | refine wp_exit ?_ | refine xThen ?_ | refine xHere ?_ | refine xFar (by decide) ?_ | refine wp_ret ?_ | refine rThen ?_
    refine' reg_all hF ?_ mixed (by kernel_rfl) ?_
    rotate_left
    · repeat (first
          | exact Line.nil
          | (refine' Line.cons rfl (.no rfl rfl rfl rfl rfl rfl) ?_; rotate_left)
          | ((first | refine' Line.cons rfl (.run rfl rfl ?_) ?_ | refine' Line.cons rfl (.yes rfl rfl rfl rfl ?_) ?_)
             any_goals (first | exact cMove rfl rfl | exact cAssign rfl rfl | exact cNot rfl rfl | exact cPickT rfl rfl rfl | exact cPickF rfl rfl rfl | exact cLss rfl rfl rfl | exact cLeq rfl rfl rfl)
             rotate_left))
    intro a w30 hF hb hN
    have hBs := hB.size
    replace hB := hB.trans (hb.mono hB.size)
    dsimp only [ext, Option.getD] at hF
    repeat with_reducible first | refine wp_seq ?_ | refine nThen ?_ | refine nBlk ?_ | refine wp_skip ?_ | refine wp_block ?_ | refine wp_exit ?_ | refine xThen ?_ | refine xHere ?_ | refine xFar (by decide) ?_ | refine wp_ret ?_ | refine rThen ?_
    replace hM := hM.below hb
    replace hL := hL.trans (hb.mono hlor)
    have hlo30 : lo ≤ w30.heap.size := Nat.le_trans hlor hB.size
    refine cond_ty hF rfl (fun hle => ?_) (fun hgt => ?_)
    · have hle : n ≤ 1024 := by have := of_decide_eq_true hle; omega
      have hI := idxBool_ty (pureB seed st.L) true (by rw [pureB_len]; omega)
      rw [idx_pure] at hI
      have hat := hM.at_
      have hsP : (Ty.sl 4 (pureB seed st.L).length ((pureB seed st.L).map bvl)).p w30 sP := by rw [pureB_len]; exact hM.pure.sl
      replace hB := Below.refl w30.heap.size w30
      by_cases hlt : nextI seed st.L < st.L.length
      · rw [if_pos hlt] at hI
        have hpu := (next_at (seed := seed) hlt (by
          have := firstP_at (pureAt seed st.L) st.L.length 0 (by unfold nextI at hlt; omega)
          rw [Nat.zero_add] at this
          exact this)).2
        have hrn := run_next (m := m - 1) (s := st) hlt
        rw [show m - 1 + 1 = m by omega, hrun] at hrn
        have htk : st.take seed (nextI seed st.L) = _ := rfl
        rw [htk] at hrn
        unfold Pst.take at hrn
        dsimp only at hrn
        generalize nextI seed st.L = i at *
        repeat with_reducible first | refine wp_seq ?_ | refine nThen ?_ | refine nBlk ?_ | refine wp_skip ?_ | refine wp_block ?_ | refine wp_exit ?_ | refine xThen ?_ | refine xHere ?_ | refine xFar (by decide) ?_ | refine wp_ret ?_ | refine rThen ?_
        refine' reg_all hF ?_ mixed (by kernel_rfl) ?_
        rotate_left
        · repeat (first
              | exact Line.nil
              | (refine' Line.cons rfl (.no rfl rfl rfl rfl rfl rfl) ?_; rotate_left)
              | ((first | refine' Line.cons rfl (.run rfl rfl ?_) ?_ | refine' Line.cons rfl (.yes rfl rfl rfl rfl ?_) ?_)
                 any_goals (first | exact cMove rfl rfl | exact cAssign rfl rfl | exact cNot rfl rfl | exact cNilOk rfl rfl | exact cPeelP rfl (.l rfl hat) | exact cLoad1 (u := sP) rfl (.t rfl) (pts_at _ _) Try.underlying124 rfl | exact cCallH2 rfl (.l rfl hsP) (.t rfl) hI | exact cPickT rfl rfl rfl | exact cPickF rfl rfl rfl | exact cLss rfl rfl rfl | exact cLeq rfl rfl rfl)
                 rotate_left))
        intro a w31 hF hb hN
        have hBs := hB.size
        replace hB := hB.trans (hb.mono hB.size)
        dsimp only [ext, Option.getD] at hF
        repeat with_reducible first | refine wp_seq ?_ | refine nThen ?_ | refine nBlk ?_ | refine wp_skip ?_ | refine wp_block ?_ | refine wp_exit ?_ | refine xThen ?_ | refine xHere ?_ | refine xFar (by decide) ?_ | refine wp_ret ?_ | refine rThen ?_
        refine' reg_all hF ?_ mixed (by kernel_rfl) ?_
        rotate_left
        · repeat (first
              | exact Line.nil
              | (refine' Line.cons rfl (.no rfl rfl rfl rfl rfl rfl) ?_; rotate_left)
              | ((first | refine' Line.cons rfl (.run rfl rfl ?_) ?_ | refine' Line.cons rfl (.yes rfl rfl rfl rfl ?_) ?_)
                 any_goals (first | exact cMove rfl rfl | exact cAssign rfl rfl | exact cNot rfl rfl | exact cPickT rfl rfl rfl | exact cPickF rfl rfl rfl | exact cLss rfl rfl rfl | exact cLeq rfl rfl rfl)
                 rotate_left))
        intro a w32 hF hb hN
        have hBs := hB.size
        replace hB := hB.trans (hb.mono hB.size)
        dsimp only [ext, Option.getD] at hF
        repeat with_reducible first | refine wp_seq ?_ | refine nThen ?_ | refine nBlk ?_ | refine wp_skip ?_ | refine wp_block ?_ | refine wp_exit ?_ | refine xThen ?_ | refine xHere ?_ | refine xFar (by decide) ?_ | refine wp_ret ?_ | refine rThen ?_
        refine cond_ty hF rfl (fun hneg => ?_) (fun _ => ?_)
        · exact absurd (of_decide_eq_true hneg) (by omega)
        repeat with_reducible first | refine wp_seq ?_ | refine nThen ?_ | refine nBlk ?_ | refine wp_skip ?_ | refine wp_block ?_ | refine wp_exit ?_ | refine xThen ?_ | refine xHere ?_ | refine xFar (by decide) ?_ | refine wp_ret ?_ | refine rThen ?_
        refine wp_region_lit ?_
        refine' tlOp hF rfl rfl rfl ?_ ?_
        rotate_left
        · first | exact cMove rfl rfl | exact cAssign rfl rfl | exact cPickT rfl rfl rfl | exact cPickF rfl rfl rfl | exact cNot rfl rfl | exact cLss rfl rfl rfl | exact cLeq rfl rfl rfl
        intro a w33 hF hb
        have hBs := hB.size
        replace hB := hB.trans (hb.mono hB.size)
        try (refine wpList_nil ?_)
        repeat with_reducible first | refine wp_seq ?_ | refine nThen ?_ | refine nBlk ?_ | refine wp_skip ?_ | refine wp_block ?_ | refine wp_exit ?_ | refine xThen ?_ | refine xHere ?_ | refine xFar (by decide) ?_ | refine wp_ret ?_ | refine rThen ?_
        refine' tlOp hF rfl rfl rfl ?_ ?_
        rotate_left
        · first | exact cMove rfl rfl | exact cAssign rfl rfl | exact cPickT rfl rfl rfl | exact cPickF rfl rfl rfl | exact cNot rfl rfl | exact cLss rfl rfl rfl | exact cLeq rfl rfl rfl
        intro a w34 hF hb
        have hBs := hB.size
        replace hB := hB.trans (hb.mono hB.size)
        try (refine wpList_nil ?_)
        repeat with_reducible first | refine wp_seq ?_ | refine nThen ?_ | refine nBlk ?_ | refine wp_skip ?_ | refine wp_block ?_ | refine wp_exit ?_ | refine xThen ?_ | refine xHere ?_ | refine xFar (by decide) ?_ | refine wp_ret ?_ | refine rThen ?_
        replace hM := hM.below hB
        replace hL := hL.trans (hB.mono hlo30)
        have hlo34 : lo ≤ w34.heap.size := Nat.le_trans hlo30 hB.size
        obtain ⟨x, hx⟩ : ∃ x, (st.L.getD i default).key = x := ⟨_, rfl⟩
        rw [hx] at hrn
        have hSx : decide (x ∈ S) = (decide (x ∈ st.plus) || decide (x ∈ st.minus)) := by rw [← Bool.decide_or]; exact decide_eq_decide.2 (hS x)
        rw [← hSx] at hrn
        by_cases hc : (st.L.getD i default).n = 1
        · rw [if_pos hc] at hrn
          have hlk := takeP_any hM hO hlo34 hsd (by omega) (by omega) hlt hpu hc hx
          refine tlCall rfl rfl rfl (args := #[.pointer (some ⟨gp, 0, none⟩), ivn i]) ?_ het hlk ?_
          · simp only [List.map_toArray, List.map_cons, List.map_nil, hF.getEx (s := 50) rfl, hF.getEx (s := 51) rfl]; rfl
          rintro z w35 ⟨rfl, hB35, v', S', hM2, hO2⟩
          have hF := ((hF.keep [2, 4, 6, 7]).exs (w' := w35) (exs_cons (exs_cons (exs_cons (exs_cons exs_nil))))).put (d := 52) (by decide) (Below.refl _ _) (V := Ty.ex (.bool (!decide (x ∈ S)))) rfl
          replace hL := hL.trans hB35
          replace hB := Below.refl w35.heap.size w35
          have hlo35 : lo ≤ w35.heap.size := by rw [elo]; exact hL.size
          cases hxs : decide (x ∈ S) with
          | true =>
            rw [hxs, Bool.not_true, Bool.and_false] at hrn
            rw [hxs] at hF
            refine' tlOp hF rfl rfl rfl ?_ ?_
            rotate_left
            · first | exact cMove rfl rfl | exact cAssign rfl rfl | exact cPickT rfl rfl rfl | exact cPickF rfl rfl rfl | exact cNot rfl rfl | exact cLss rfl rfl rfl | exact cLeq rfl rfl rfl
            intro a w36 hF hb
            have hBs := hB.size
            replace hB := hB.trans (hb.mono hB.size)
            try (refine wpList_nil ?_)
            repeat with_reducible first | refine wp_seq ?_ | refine nThen ?_ | refine nBlk ?_ | refine wp_skip ?_ | refine wp_block ?_ | refine wp_exit ?_ | refine xThen ?_ | refine xHere ?_ | refine xFar (by decide) ?_ | refine wp_ret ?_ | refine rThen ?_
            refine tlOpN hF rfl rfl rfl rfl rfl rfl fun a hF => ?_
            refine' tlOp hF rfl rfl rfl ?_ ?_
            rotate_left
            · first | exact cPickF rfl rfl rfl | exact cMove rfl rfl | exact cAssign rfl rfl | exact cPickT rfl rfl rfl | exact cPickF rfl rfl rfl | exact cNot rfl rfl | exact cLss rfl rfl rfl | exact cLeq rfl rfl rfl
            intro a w37 hF hb
            have hBs := hB.size
            replace hB := hB.trans (hb.mono hB.size)
            try (refine wpList_nil ?_)
            repeat with_reducible first | refine wp_seq ?_ | refine nThen ?_ | refine nBlk ?_ | refine wp_skip ?_ | refine wp_block ?_ | refine wp_exit ?_ | refine xThen ?_ | refine xHere ?_ | refine xFar (by decide) ?_ | refine wp_ret ?_ | refine rThen ?_
            refine' tlOp hF rfl rfl rfl ?_ ?_
            rotate_left
            · first | exact cMove rfl rfl | exact cAssign rfl rfl | exact cPickT rfl rfl rfl | exact cPickF rfl rfl rfl | exact cNot rfl rfl | exact cLss rfl rfl rfl | exact cLeq rfl rfl rfl
            intro a w38 hF hb
            have hBs := hB.size
            replace hB := hB.trans (hb.mono hB.size)
            try (refine wpList_nil ?_)
            repeat with_reducible first | refine wp_seq ?_ | refine nThen ?_ | refine nBlk ?_ | refine wp_skip ?_ | refine wp_block ?_ | refine wp_exit ?_ | refine xThen ?_ | refine xHere ?_ | refine xFar (by decide) ?_ | refine wp_ret ?_ | refine rThen ?_
            refine' reg_all hF ?_ mixed (by kernel_rfl) ?_
            rotate_left
            · repeat (first
                  | exact Line.nil
                  | (refine' Line.cons rfl (.no rfl rfl rfl rfl rfl rfl) ?_; rotate_left)
                  | ((first | refine' Line.cons rfl (.run rfl rfl ?_) ?_ | refine' Line.cons rfl (.yes rfl rfl rfl rfl ?_) ?_)
                     any_goals (first | exact cMove rfl rfl | exact cAssign rfl rfl | exact cNot rfl rfl | exact cAdd (r := ((n + 1 : Nat) : Int)) rfl rfl rfl (by omega) | exact cPickT rfl rfl rfl | exact cPickF rfl rfl rfl | exact cLss rfl rfl rfl | exact cLeq rfl rfl rfl)
                     rotate_left))
            intro a w39 hF hb hN
            have hBs := hB.size
            replace hB := hB.trans (hb.mono hB.size)
            dsimp only [ext, Option.getD] at hF
            repeat with_reducible first | refine wp_seq ?_ | refine nThen ?_ | refine nBlk ?_ | refine wp_skip ?_ | refine wp_block ?_ | refine wp_exit ?_ | refine xThen ?_ | refine xHere ?_ | refine xFar (by decide) ?_ | refine wp_ret ?_ | refine rThen ?_
            exact ⟨m - 1, by omega, n + 1, ⟨tput seed st.L x (-1), st.plus ++ [x], st.minus, false⟩, _, _, _, _, _, by omega, hF.keep [2, 4, 6, 7], hL.trans (hB.mono hlo35), hM2.below hB, hO2, fun y => mem_plus (hS y), by rw [tput_len]; exact hlen, hrn.symm, by simp; omega⟩
          | false =>
            rw [hxs, Bool.not_false, Bool.and_true] at hrn
            rw [hxs] at hF
            refine' tlOp hF rfl rfl rfl ?_ ?_
            rotate_left
            · first | exact cMove rfl rfl | exact cAssign rfl rfl | exact cPickT rfl rfl rfl | exact cPickF rfl rfl rfl | exact cNot rfl rfl | exact cLss rfl rfl rfl | exact cLeq rfl rfl rfl
            intro a w36 hF hb
            have hBs := hB.size
            replace hB := hB.trans (hb.mono hB.size)
            try (refine wpList_nil ?_)
            repeat with_reducible first | refine wp_seq ?_ | refine nThen ?_ | refine nBlk ?_ | refine wp_skip ?_ | refine wp_block ?_ | refine wp_exit ?_ | refine xThen ?_ | refine xHere ?_ | refine xFar (by decide) ?_ | refine wp_ret ?_ | refine rThen ?_
            refine tlOpG hF rfl rfl rfl rfl rfl (cMove rfl rfl) fun a w37 hF hb => ?_
            replace hB := hB.trans (hb.mono hB.size)
            refine' tlOp hF rfl rfl rfl ?_ ?_
            rotate_left
            · first | exact cPickT rfl rfl rfl | exact cMove rfl rfl | exact cAssign rfl rfl | exact cPickT rfl rfl rfl | exact cPickF rfl rfl rfl | exact cNot rfl rfl | exact cLss rfl rfl rfl | exact cLeq rfl rfl rfl
            intro a w38 hF hb
            have hBs := hB.size
            replace hB := hB.trans (hb.mono hB.size)
            try (refine wpList_nil ?_)
            repeat with_reducible first | refine wp_seq ?_ | refine nThen ?_ | refine nBlk ?_ | refine wp_skip ?_ | refine wp_block ?_ | refine wp_exit ?_ | refine xThen ?_ | refine xHere ?_ | refine xFar (by decide) ?_ | refine wp_ret ?_ | refine rThen ?_
            refine' tlOp hF rfl rfl rfl ?_ ?_
            rotate_left
            · first | exact cMove rfl rfl | exact cAssign rfl rfl | exact cPickT rfl rfl rfl | exact cPickF rfl rfl rfl | exact cNot rfl rfl | exact cLss rfl rfl rfl | exact cLeq rfl rfl rfl
            intro a w39 hF hb
            have hBs := hB.size
            replace hB := hB.trans (hb.mono hB.size)
            try (refine wpList_nil ?_)
            repeat with_reducible first | refine wp_seq ?_ | refine nThen ?_ | refine nBlk ?_ | refine wp_skip ?_ | refine wp_block ?_ | refine wp_exit ?_ | refine xThen ?_ | refine xHere ?_ | refine xFar (by decide) ?_ | refine wp_ret ?_ | refine rThen ?_
            refine' reg_all hF ?_ mixed (by kernel_rfl) ?_
            rotate_left
            · repeat (first
                  | exact Line.nil
                  | (refine' Line.cons rfl (.no rfl rfl rfl rfl rfl rfl) ?_; rotate_left)
                  | ((first | refine' Line.cons rfl (.run rfl rfl ?_) ?_ | refine' Line.cons rfl (.yes rfl rfl rfl rfl ?_) ?_)
                     any_goals (first | exact cMove rfl rfl | exact cAssign rfl rfl | exact cNot rfl rfl | exact cAdd (r := ((n + 1 : Nat) : Int)) rfl rfl rfl (by omega) | exact cPickT rfl rfl rfl | exact cPickF rfl rfl rfl | exact cLss rfl rfl rfl | exact cLeq rfl rfl rfl)
                     rotate_left))
            intro a w40 hF hb hN
            have hBs := hB.size
            replace hB := hB.trans (hb.mono hB.size)
            dsimp only [ext, Option.getD] at hF
            repeat with_reducible first | refine wp_seq ?_ | refine nThen ?_ | refine nBlk ?_ | refine wp_skip ?_ | refine wp_block ?_ | refine wp_exit ?_ | refine xThen ?_ | refine xHere ?_ | refine xFar (by decide) ?_ | refine wp_ret ?_ | refine rThen ?_
            exact ⟨m - 1, by omega, n + 1, ⟨tput seed st.L x (-1), st.plus ++ [x], st.minus, st.once⟩, _, _, _, _, _, by omega, hF.keep [2, 4, 6, 7], hL.trans (hB.mono hlo35), hM2.below hB, hO2, fun y => mem_plus (hS y), by rw [tput_len]; exact hlen, hrn.symm, by simp; omega⟩
        · rw [if_neg hc] at hrn
          have hlk := takeM_any hM hO hlo34 hsd (by omega) (by omega) hlt hpu hc hx
          refine tlCall rfl rfl rfl (args := #[.pointer (some ⟨gp, 0, none⟩), ivn i]) ?_ het hlk ?_
          · simp only [List.map_toArray, List.map_cons, List.map_nil, hF.getEx (s := 50) rfl, hF.getEx (s := 51) rfl]; rfl
          rintro z w35 ⟨rfl, hB35, v', S', hM2, hO2⟩
          have hF := ((hF.keep [2, 4, 6, 7]).exs (w' := w35) (exs_cons (exs_cons (exs_cons (exs_cons exs_nil))))).put (d := 52) (by decide) (Below.refl _ _) (V := Ty.ex (.bool (!decide (x ∈ S)))) rfl
          replace hL := hL.trans hB35
          replace hB := Below.refl w35.heap.size w35
          have hlo35 : lo ≤ w35.heap.size := by rw [elo]; exact hL.size
          cases hxs : decide (x ∈ S) with
          | true =>
            rw [hxs, Bool.not_true, Bool.and_false] at hrn
            rw [hxs] at hF
            refine' tlOp hF rfl rfl rfl ?_ ?_
            rotate_left
            · first | exact cMove rfl rfl | exact cAssign rfl rfl | exact cPickT rfl rfl rfl | exact cPickF rfl rfl rfl | exact cNot rfl rfl | exact cLss rfl rfl rfl | exact cLeq rfl rfl rfl
            intro a w36 hF hb
            have hBs := hB.size
            replace hB := hB.trans (hb.mono hB.size)
            try (refine wpList_nil ?_)
            repeat with_reducible first | refine wp_seq ?_ | refine nThen ?_ | refine nBlk ?_ | refine wp_skip ?_ | refine wp_block ?_ | refine wp_exit ?_ | refine xThen ?_ | refine xHere ?_ | refine xFar (by decide) ?_ | refine wp_ret ?_ | refine rThen ?_
            refine tlOpN hF rfl rfl rfl rfl rfl rfl fun a hF => ?_
            refine' tlOp hF rfl rfl rfl ?_ ?_
            rotate_left
            · first | exact cPickF rfl rfl rfl | exact cMove rfl rfl | exact cAssign rfl rfl | exact cPickT rfl rfl rfl | exact cPickF rfl rfl rfl | exact cNot rfl rfl | exact cLss rfl rfl rfl | exact cLeq rfl rfl rfl
            intro a w37 hF hb
            have hBs := hB.size
            replace hB := hB.trans (hb.mono hB.size)
            try (refine wpList_nil ?_)
            repeat with_reducible first | refine wp_seq ?_ | refine nThen ?_ | refine nBlk ?_ | refine wp_skip ?_ | refine wp_block ?_ | refine wp_exit ?_ | refine xThen ?_ | refine xHere ?_ | refine xFar (by decide) ?_ | refine wp_ret ?_ | refine rThen ?_
            refine' tlOp hF rfl rfl rfl ?_ ?_
            rotate_left
            · first | exact cMove rfl rfl | exact cAssign rfl rfl | exact cPickT rfl rfl rfl | exact cPickF rfl rfl rfl | exact cNot rfl rfl | exact cLss rfl rfl rfl | exact cLeq rfl rfl rfl
            intro a w38 hF hb
            have hBs := hB.size
            replace hB := hB.trans (hb.mono hB.size)
            try (refine wpList_nil ?_)
            repeat with_reducible first | refine wp_seq ?_ | refine nThen ?_ | refine nBlk ?_ | refine wp_skip ?_ | refine wp_block ?_ | refine wp_exit ?_ | refine xThen ?_ | refine xHere ?_ | refine xFar (by decide) ?_ | refine wp_ret ?_ | refine rThen ?_
            refine' reg_all hF ?_ mixed (by kernel_rfl) ?_
            rotate_left
            · repeat (first
                  | exact Line.nil
                  | (refine' Line.cons rfl (.no rfl rfl rfl rfl rfl rfl) ?_; rotate_left)
                  | ((first | refine' Line.cons rfl (.run rfl rfl ?_) ?_ | refine' Line.cons rfl (.yes rfl rfl rfl rfl ?_) ?_)
                     any_goals (first | exact cMove rfl rfl | exact cAssign rfl rfl | exact cNot rfl rfl | exact cAdd (r := ((n + 1 : Nat) : Int)) rfl rfl rfl (by omega) | exact cPickT rfl rfl rfl | exact cPickF rfl rfl rfl | exact cLss rfl rfl rfl | exact cLeq rfl rfl rfl)
                     rotate_left))
            intro a w39 hF hb hN
            have hBs := hB.size
            replace hB := hB.trans (hb.mono hB.size)
            dsimp only [ext, Option.getD] at hF
            repeat with_reducible first | refine wp_seq ?_ | refine nThen ?_ | refine nBlk ?_ | refine wp_skip ?_ | refine wp_block ?_ | refine wp_exit ?_ | refine xThen ?_ | refine xHere ?_ | refine xFar (by decide) ?_ | refine wp_ret ?_ | refine rThen ?_
            exact ⟨m - 1, by omega, n + 1, ⟨tput seed st.L x 1, st.plus, st.minus ++ [x], false⟩, _, _, _, _, _, by omega, hF.keep [2, 4, 6, 7], hL.trans (hB.mono hlo35), hM2.below hB, hO2, fun y => mem_minus (hS y), by rw [tput_len]; exact hlen, hrn.symm, by simp; omega⟩
          | false =>
            rw [hxs, Bool.not_false, Bool.and_true] at hrn
            rw [hxs] at hF
            refine' tlOp hF rfl rfl rfl ?_ ?_
            rotate_left
            · first | exact cMove rfl rfl | exact cAssign rfl rfl | exact cPickT rfl rfl rfl | exact cPickF rfl rfl rfl | exact cNot rfl rfl | exact cLss rfl rfl rfl | exact cLeq rfl rfl rfl
            intro a w36 hF hb
            have hBs := hB.size
            replace hB := hB.trans (hb.mono hB.size)
            try (refine wpList_nil ?_)
            repeat with_reducible first | refine wp_seq ?_ | refine nThen ?_ | refine nBlk ?_ | refine wp_skip ?_ | refine wp_block ?_ | refine wp_exit ?_ | refine xThen ?_ | refine xHere ?_ | refine xFar (by decide) ?_ | refine wp_ret ?_ | refine rThen ?_
            refine tlOpG hF rfl rfl rfl rfl rfl (cMove rfl rfl) fun a w37 hF hb => ?_
            replace hB := hB.trans (hb.mono hB.size)
            refine' tlOp hF rfl rfl rfl ?_ ?_
            rotate_left
            · first | exact cPickT rfl rfl rfl | exact cMove rfl rfl | exact cAssign rfl rfl | exact cPickT rfl rfl rfl | exact cPickF rfl rfl rfl | exact cNot rfl rfl | exact cLss rfl rfl rfl | exact cLeq rfl rfl rfl
            intro a w38 hF hb
            have hBs := hB.size
            replace hB := hB.trans (hb.mono hB.size)
            try (refine wpList_nil ?_)
            repeat with_reducible first | refine wp_seq ?_ | refine nThen ?_ | refine nBlk ?_ | refine wp_skip ?_ | refine wp_block ?_ | refine wp_exit ?_ | refine xThen ?_ | refine xHere ?_ | refine xFar (by decide) ?_ | refine wp_ret ?_ | refine rThen ?_
            refine' tlOp hF rfl rfl rfl ?_ ?_
            rotate_left
            · first | exact cMove rfl rfl | exact cAssign rfl rfl | exact cPickT rfl rfl rfl | exact cPickF rfl rfl rfl | exact cNot rfl rfl | exact cLss rfl rfl rfl | exact cLeq rfl rfl rfl
            intro a w39 hF hb
            have hBs := hB.size
            replace hB := hB.trans (hb.mono hB.size)
            try (refine wpList_nil ?_)
            repeat with_reducible first | refine wp_seq ?_ | refine nThen ?_ | refine nBlk ?_ | refine wp_skip ?_ | refine wp_block ?_ | refine wp_exit ?_ | refine xThen ?_ | refine xHere ?_ | refine xFar (by decide) ?_ | refine wp_ret ?_ | refine rThen ?_
            refine' reg_all hF ?_ mixed (by kernel_rfl) ?_
            rotate_left
            · repeat (first
                  | exact Line.nil
                  | (refine' Line.cons rfl (.no rfl rfl rfl rfl rfl rfl) ?_; rotate_left)
                  | ((first | refine' Line.cons rfl (.run rfl rfl ?_) ?_ | refine' Line.cons rfl (.yes rfl rfl rfl rfl ?_) ?_)
                     any_goals (first | exact cMove rfl rfl | exact cAssign rfl rfl | exact cNot rfl rfl | exact cAdd (r := ((n + 1 : Nat) : Int)) rfl rfl rfl (by omega) | exact cPickT rfl rfl rfl | exact cPickF rfl rfl rfl | exact cLss rfl rfl rfl | exact cLeq rfl rfl rfl)
                     rotate_left))
            intro a w40 hF hb hN
            have hBs := hB.size
            replace hB := hB.trans (hb.mono hB.size)
            dsimp only [ext, Option.getD] at hF
            repeat with_reducible first | refine wp_seq ?_ | refine nThen ?_ | refine nBlk ?_ | refine wp_skip ?_ | refine wp_block ?_ | refine wp_exit ?_ | refine xThen ?_ | refine xHere ?_ | refine xFar (by decide) ?_ | refine wp_ret ?_ | refine rThen ?_
            exact ⟨m - 1, by omega, n + 1, ⟨tput seed st.L x 1, st.plus, st.minus ++ [x], st.once⟩, _, _, _, _, _, by omega, hF.keep [2, 4, 6, 7], hL.trans (hB.mono hlo35), hM2.below hB, hO2, fun y => mem_minus (hS y), by rw [tput_len]; exact hlen, hrn.symm, by simp; omega⟩
      · rw [if_neg hlt] at hI
        rw [run_stop hlt] at hrun
        repeat with_reducible first | refine wp_seq ?_ | refine nThen ?_ | refine nBlk ?_ | refine wp_skip ?_ | refine wp_block ?_ | refine wp_exit ?_ | refine xThen ?_ | refine xHere ?_ | refine xFar (by decide) ?_ | refine wp_ret ?_ | refine rThen ?_
        refine' reg_all hF ?_ mixed (by kernel_rfl) ?_
        rotate_left
        · repeat (first
              | exact Line.nil
              | (refine' Line.cons rfl (.no rfl rfl rfl rfl rfl rfl) ?_; rotate_left)
              | ((first | refine' Line.cons rfl (.run rfl rfl ?_) ?_ | refine' Line.cons rfl (.yes rfl rfl rfl rfl ?_) ?_)
                 any_goals (first | exact cMove rfl rfl | exact cAssign rfl rfl | exact cNot rfl rfl | exact cNilOk rfl rfl | exact cPeelP rfl (.l rfl hat) | exact cLoad1 (u := sP) rfl (.t rfl) (pts_at _ _) Try.underlying124 rfl | exact cCallH2 rfl (.l rfl hsP) (.t rfl) hI | exact cPickT rfl rfl rfl | exact cPickF rfl rfl rfl | exact cLss rfl rfl rfl | exact cLeq rfl rfl rfl)
                 rotate_left))
        intro a w31 hF hb hN
        have hBs := hB.size
        replace hB := hB.trans (hb.mono hB.size)
        dsimp only [ext, Option.getD] at hF
        repeat with_reducible first | refine wp_seq ?_ | refine nThen ?_ | refine nBlk ?_ | refine wp_skip ?_ | refine wp_block ?_ | refine wp_exit ?_ | refine xThen ?_ | refine xHere ?_ | refine xFar (by decide) ?_ | refine wp_ret ?_ | refine rThen ?_
        refine' reg_all hF ?_ mixed (by kernel_rfl) ?_
        rotate_left
        · repeat (first
              | exact Line.nil
              | (refine' Line.cons rfl (.no rfl rfl rfl rfl rfl rfl) ?_; rotate_left)
              | ((first | refine' Line.cons rfl (.run rfl rfl ?_) ?_ | refine' Line.cons rfl (.yes rfl rfl rfl rfl ?_) ?_)
                 any_goals (first | exact cMove rfl rfl | exact cAssign rfl rfl | exact cNot rfl rfl | exact cPickT rfl rfl rfl | exact cPickF rfl rfl rfl | exact cLss rfl rfl rfl | exact cLeq rfl rfl rfl)
                 rotate_left))
        intro a w32 hF hb hN
        have hBs := hB.size
        replace hB := hB.trans (hb.mono hB.size)
        dsimp only [ext, Option.getD] at hF
        repeat with_reducible first | refine wp_seq ?_ | refine nThen ?_ | refine nBlk ?_ | refine wp_skip ?_ | refine wp_block ?_ | refine wp_exit ?_ | refine xThen ?_ | refine xHere ?_ | refine xFar (by decide) ?_ | refine wp_ret ?_ | refine rThen ?_
        refine cond_ty hF rfl (fun _ => ?_) (fun hneg => ?_)
        · repeat with_reducible first | refine wp_seq ?_ | refine nThen ?_ | refine nBlk ?_ | refine wp_skip ?_ | refine wp_block ?_ | refine wp_exit ?_ | refine xThen ?_ | refine xHere ?_ | refine xFar (by decide) ?_ | refine wp_ret ?_ | refine rThen ?_
          subst hrun
          exact ⟨rfl, S, s0, s1, S0, S1, n, hF.keep [2, 4, 6], hL.trans (hB.mono hlo30), hM.below hB⟩
        · exact absurd (of_decide_eq_false hneg) (by omega)
    · have hgt : ¬ n ≤ 1024 := by have := of_decide_eq_false hgt; omega
      obtain rfl : m = 0 := by omega
      have hrun : st = peelS seed L := hrun
      repeat with_reducible first | refine wp_seq ?_ | refine nThen ?_ | refine nBlk ?_ | refine wp_skip ?_ | refine wp_block ?_ | refine wp_exit ?_ | refine xThen ?_ | refine xHere ?_ | refine xFar (by decide) ?_ | refine wp_ret ?_ | refine rThen ?_
      subst hrun
      exact ⟨rfl, S, s0, s1, S0, S1, n, hF.keep [2, 4, 6], hL, hM⟩
  clear hF hB hL hM hO hb hBs
  rintro e a wr ⟨rfl, S, s0, s1, S0, S1, n, hF, hL, hM⟩
  have hlor : lo ≤ wr.heap.size := by rw [elo]; exact hL.size
  have hB := Below.refl wr.heap.size wr
  have hat := hM.at_
  have eok : peelOk seed L = ((peelS seed L).once && allZ (peelS seed L).L) := by unfold peelOk Pst.fine; rw [hok, Bool.true_and]
  have eS : resS seed L = seed := by unfold resS; rw [hok]; rfl
  have eL : resL seed L = (peelS seed L).L := by unfold resL; rw [hok]; rfl
  have hlen : (peelS seed L).L.length = L.length := Pst.run_len _ _ _
  have hf1 := peel_few1 (seed := seed) (L := L)
  have hgd : goodN ((peelS seed L).L.length : Int) = true := by rw [hlen]; exact hok
  have eP : resP seed L = if peelOk seed L then setL (peelS seed L).plus else [] := rfl
  have eM : resM seed L = if peelOk seed L then setL (peelS seed L).minus else [] := rfl
  have eN : resN seed L = if peelOk seed L then 0 else 10 := by unfold resN; rw [hok]; rfl
  rw [eS, eL, eP, eM, eN, eok]
  generalize peelS seed L = st at *
  clear eok eS eL eP eM eN
  have hTZ := tzero_ty seed st.L
  rw [hgd, Bool.true_and] at hTZ
  have htb : (Ty.tab 87 seed st.L).p wr (.agg #[.int .u64 (seed : Int), sL]) := ⟨sL, rfl, hM.tab.sl⟩
  repeat with_reducible first | refine wp_seq ?_ | refine nThen ?_ | refine nBlk ?_ | refine wp_skip ?_ | refine wp_block ?_ | refine wp_exit ?_ | refine xThen ?_ | refine xHere ?_ | refine xFar (by decide) ?_ | refine wp_ret ?_ | refine rThen ?_
  refine wp_mono (Q := fun e a w' => e = .normal ∧ Fr 88 [(2, Ty.ex (.pointer (some ⟨g2, 0, none⟩))), (4, Ty.ex (.pointer (some ⟨gp, 0, none⟩))), (65, Ty.ex (.bool (!(st.once && allZ st.L))))] a w' ∧ Below wr.heap.size wr w') ?_ ?_
  · cases ho : st.once with
    | true =>
      rw [ho] at hF
      rw [Bool.true_and]
      refine' reg_all hF ?_ mixed (by kernel_rfl) ?_
      rotate_left
      · repeat (first
            | exact Line.nil
            | (refine' Line.cons rfl (.no rfl rfl rfl rfl rfl rfl) ?_; rotate_left)
            | ((first | refine' Line.cons rfl (.run rfl rfl ?_) ?_ | refine' Line.cons rfl (.yes rfl rfl rfl rfl ?_) ?_)
               any_goals (first | exact cMove rfl rfl | exact cAssign rfl rfl | exact cNot rfl rfl | exact cNilOk rfl rfl | exact cPeelT rfl (.l rfl hat) | exact cLoadT46 rfl (Has.c (.t rfl) hatT) | exact cCallH1 rfl (.l rfl htb) hTZ | exact cPickT rfl rfl rfl | exact cPickF rfl rfl rfl | exact cLss rfl rfl rfl | exact cLeq rfl rfl rfl)
               rotate_left))
      intro a w50 hF hb hN
      have hBs := hB.size
      replace hB := hB.trans (hb.mono hB.size)
      dsimp only [ext, Option.getD] at hF
      repeat with_reducible first | refine wp_seq ?_ | refine nThen ?_ | refine nBlk ?_ | refine wp_skip ?_ | refine wp_block ?_ | refine wp_exit ?_ | refine xThen ?_ | refine xHere ?_ | refine xFar (by decide) ?_ | refine wp_ret ?_ | refine rThen ?_
      exact ⟨rfl, hF.keep [2, 4, 65], hB⟩
    | false =>
      rw [ho] at hF
      rw [Bool.false_and]
      refine' reg_all hF ?_ mixed (by kernel_rfl) ?_
      rotate_left
      · repeat (first
            | exact Line.nil
            | (refine' Line.cons rfl (.no rfl rfl rfl rfl rfl rfl) ?_; rotate_left)
            | ((first | refine' Line.cons rfl (.run rfl rfl ?_) ?_ | refine' Line.cons rfl (.yes rfl rfl rfl rfl ?_) ?_)
               any_goals (first | exact cMove rfl rfl | exact cAssign rfl rfl | exact cNot rfl rfl | exact cPickT rfl rfl rfl | exact cPickF rfl rfl rfl | exact cLss rfl rfl rfl | exact cLeq rfl rfl rfl)
               rotate_left))
      intro a w50 hF hb hN
      have hBs := hB.size
      replace hB := hB.trans (hb.mono hB.size)
      dsimp only [ext, Option.getD] at hF
      repeat with_reducible first | refine wp_seq ?_ | refine nThen ?_ | refine nBlk ?_ | refine wp_skip ?_ | refine wp_block ?_ | refine wp_exit ?_ | refine xThen ?_ | refine xHere ?_ | refine xFar (by decide) ?_ | refine wp_ret ?_ | refine rThen ?_
      exact ⟨rfl, hF.keep [2, 4, 65], hB⟩
  clear hF hB
  rintro e a w51 ⟨rfl, hF, hB⟩
  replace hL := hL.trans (hB.mono hlor)
  replace hM := hM.below hB
  have hat := hM.at_
  have hlo51 : lo ≤ w51.heap.size := Nat.le_trans hlor hB.size
  have hb2' : Blk w51 g2 ResT #[nilS, nilS, .int .u64 0, nilS] := (hL.block g2 hg2l).trans hb2
  clear htb
  replace hB := Below.refl w51.heap.size w51
  have hsLA := seg_isA hM.tab
  have hfin : ∀ {w'}, Below lo w2 w' → Below w.heap.size w w' := fun hl => hB0.trans (hl.mono (by rw [elo]; exact hw2))
  have hg2S : ∀ {w'}, Keeps [g2] w51 w' → SlP w' 87 sL st.L.length (flatC st.L) := fun hk => (hM.tab.keeps hk (seg_far hM.tab hb2' (by decide))).sl
  repeat with_reducible first | refine wp_seq ?_ | refine nThen ?_ | refine nBlk ?_ | refine wp_skip ?_ | refine wp_block ?_ | refine wp_exit ?_ | refine xThen ?_ | refine xHere ?_ | refine xFar (by decide) ?_ | refine wp_ret ?_ | refine rThen ?_
  cases hz : (st.once && allZ st.L) with
  | false =>
    rw [hz] at hF
    simp only [Bool.false_eq_true, if_false]
    refine cond_t hF rfl ?_
    repeat with_reducible first | refine wp_seq ?_ | refine nThen ?_ | refine nBlk ?_ | refine wp_skip ?_ | refine wp_block ?_ | refine wp_exit ?_ | refine xThen ?_ | refine xHere ?_ | refine xFar (by decide) ?_ | refine wp_ret ?_ | refine rThen ?_
    refine' region_ty 5 mixed (by kernel_rfl) hF ?_ ?_
    rotate_left
    · simp only [List.take_succ_cons, List.take_zero]
      repeat (first
          | exact Line.nil
          | (refine' Line.cons rfl (.no rfl rfl rfl rfl rfl rfl) ?_; rotate_left)
          | ((first | refine' Line.cons rfl (.run rfl rfl ?_) ?_ | refine' Line.cons rfl (.yes rfl rfl rfl rfl ?_) ?_)
             any_goals (first | exact cMove rfl rfl | exact cAssign rfl rfl | exact cNot rfl rfl | exact cNilOk rfl rfl | exact cPeelT rfl (.l rfl hat) | exact cLoadT46 rfl (Has.c (.t rfl) hatT) | exact cBuildI rfl rfl (fun w => buildRL _ hsLA w) | exact cPickT rfl rfl rfl | exact cPickF rfl rfl rfl | exact cLss rfl rfl rfl | exact cLeq rfl rfl rfl)
             rotate_left))
    intro a w52 hF hb hN
    have hBs := hB.size
    replace hB := hB.trans (hb.mono hB.size)
    simp only [List.take_succ_cons, List.take_zero, List.drop_succ_cons, List.drop_zero] at hF hN ⊢
    dsimp only [ext, Option.getD] at hF
    replace hb2' := hb2'.below hb
    replace hL := hL.trans (hb.mono hlo51)
    have hlo52 : lo ≤ w52.heap.size := Nat.le_trans hlo51 hb.size
    refine tlStoreV (Δ := [(2, Ty.ex (.pointer (some ⟨g2, 0, none⟩)))]) hF rfl rfl rfl rfl (hF.getEx (s := 70) rfl) hb2' rfl sizeRes (res_one ⟨_, _, _, rfl⟩ ⟨_, _, _, rfl⟩ hsLA) (hF.keep [2]) rfl ?_
    intro w53 hF hb2'' hkx
    have hsl := hg2S ((Keeps.of_below (S := [g2]) hb).trans hkx)
    have hB53 : Below w.heap.size w w53 := below_own (hfin hL) hkx (by intro y hy; simp only [List.mem_singleton] at hy; omega)
    replace hB := hB53
    refine' tlOp hF rfl rfl rfl ?_ ?_
    rotate_left
    · first | exact cMove rfl rfl | exact cAssign rfl rfl | exact cPickT rfl rfl rfl | exact cPickF rfl rfl rfl | exact cNot rfl rfl | exact cLss rfl rfl rfl | exact cLeq rfl rfl rfl
    intro a w54 hF hb
    have hBs := hB.size
    replace hB := hB.trans (hb.mono hB.size)
    try (refine wpList_nil ?_)
    repeat with_reducible first | refine wp_seq ?_ | refine nThen ?_ | refine nBlk ?_ | refine wp_skip ?_ | refine wp_block ?_ | refine wp_exit ?_ | refine xThen ?_ | refine xHere ?_ | refine xFar (by decide) ?_ | refine wp_ret ?_ | refine rThen ?_
    refine retCell2 hF rfl rfl rfl (hb2''.below hb) Try.underlying83 rfl sizeRes ?_
    exact ⟨_, rfl, ⟨[_, _], rfl, ⟨nilS, nilS, sL, rfl, sl_nil _ _, sl_nil _ _, (Ty.cls 87 st.L).below hsl hb⟩, rfl, trivial⟩, hB⟩
  | true =>
    rw [hz] at hF
    simp only [if_true]
    refine cond_f hF rfl ?_
    repeat with_reducible first | refine wp_seq ?_ | refine nThen ?_ | refine nBlk ?_ | refine wp_skip ?_ | refine wp_block ?_ | refine wp_exit ?_ | refine xThen ?_ | refine xHere ?_ | refine xFar (by decide) ?_ | refine wp_ret ?_ | refine rThen ?_
    have hs0 : (Ty.sums 34 st.minus).p w51 s0 := hM.minus.sl
    have hs1 : (Ty.sums 34 st.plus).p w51 s1 := hM.plus.sl
    have hO0 := of_ty st.minus (by omega)
    have hO1 := of_ty st.plus (by omega)
    have hsl0 := hM.tab.sl
    generalize setL st.plus = P at *
    generalize setL st.minus = M at *
    refine' region_ty 17 mixed (by kernel_rfl) hF ?_ ?_
    rotate_left
    · simp only [List.take_succ_cons, List.take_zero]
      repeat (first
          | exact Line.nil
          | (refine' Line.cons rfl (.no rfl rfl rfl rfl rfl rfl) ?_; rotate_left)
          | ((first | refine' Line.cons rfl (.run rfl rfl ?_) ?_ | refine' Line.cons rfl (.yes rfl rfl rfl rfl ?_) ?_)
             any_goals (first | exact cMove rfl rfl | exact cAssign rfl rfl | exact cNot rfl rfl | exact cNilOk rfl rfl | exact cPeelR rfl (.l rfl hat) | exact cIndexArr (k := 1) rfl (.t rfl) rfl Try.underlying126 sizeSS1 (by decide) | exact cIndexArr (k := 0) rfl (.t rfl) rfl Try.underlying126 sizeSS1 (by decide) | exact cLoad1 (u := s1) rfl (.t rfl) (pts_at _ _) Try.underlying24 rfl | exact cLoad1 (u := s0) rfl (.t rfl) (pts_at _ _) Try.underlying24 rfl | exact cCallS1 rfl (.l rfl hs1) hO1 | exact cCallS1 rfl (.l rfl hs0) hO0 | exact cPeelT rfl (.l rfl hat) | exact cLoadT46 rfl (Has.c (.t rfl) hatT) | exact cBuildRes (P := P) (M := M) (L := st.L) rfl rfl rfl rfl hsl0 rfl rfl | exact cPickT rfl rfl rfl | exact cPickF rfl rfl rfl | exact cLss rfl rfl rfl | exact cLeq rfl rfl rfl)
             rotate_left))
    intro a w52 hF hb hN
    have hBs := hB.size
    replace hB := hB.trans (hb.mono hB.size)
    simp only [List.take_succ_cons, List.take_zero, List.drop_succ_cons, List.drop_zero] at hF hN ⊢
    dsimp only [ext, Option.getD] at hF
    replace hb2' := hb2'.below hb
    replace hL := hL.trans (hb.mono hlo51)
    obtain ⟨z, ⟨p, q, s', rfl, k1, k2, k3⟩, hF⟩ := hF.open (s := 87) rfl
    refine tlStoreV (Δ := [(2, Ty.ex (.pointer (some ⟨g2, 0, none⟩)))]) hF rfl rfl rfl rfl (hF.getEx (s := 87) rfl) hb2' rfl sizeRes (res_one (sl_isA k1) (sl_isA k2) (sl_isA k3)) (hF.keep [2]) rfl ?_
    intro w53 hF hb2'' hkx
    have hres : (Ty.res P M seed st.L).p w53 (.agg #[p, q, .int .u64 (seed : Int), s']) := (Ty.res P M seed st.L).far (by exact ⟨p, q, s', rfl, k1, k2, k3⟩) hkx hb2' rfl
    have hB53 : Below w.heap.size w w53 := below_own (hfin hL) hkx (by intro y hy; simp only [List.mem_singleton] at hy; omega)
    replace hB := hB53
    refine' tlOp hF rfl rfl rfl ?_ ?_
    rotate_left
    · first | exact cMove rfl rfl | exact cAssign rfl rfl | exact cPickT rfl rfl rfl | exact cPickF rfl rfl rfl | exact cNot rfl rfl | exact cLss rfl rfl rfl | exact cLeq rfl rfl rfl
    intro a w54 hF hb
    have hBs := hB.size
    replace hB := hB.trans (hb.mono hB.size)
    try (refine wpList_nil ?_)
    repeat with_reducible first | refine wp_seq ?_ | refine nThen ?_ | refine nBlk ?_ | refine wp_skip ?_ | refine wp_block ?_ | refine wp_exit ?_ | refine xThen ?_ | refine xHere ?_ | refine xFar (by decide) ?_ | refine wp_ret ?_ | refine rThen ?_
    refine retCell2 hF rfl rfl rfl (hb2''.below hb) Try.underlying83 rfl sizeRes ?_
    exact ⟨_, rfl, ⟨[_, _], rfl, (Ty.res P M seed st.L).below hres hb, rfl, trivial⟩, hB⟩
end Go.Proofs.Ytmlbkcpmgcjblaa

/- Layer 15 by types: TableKnown. -/
namespace Go.Proofs.Ytmlbkcpmgcjblaa
open Go.RowKit

theorem minL_good {s t : Nat} {A B : List Cl} (h : minOk s t A B = true) : minL s t A B = tminus A B := by unfold minL; rw [h]; rfl
theorem minS_good {s t : Nat} {A B : List Cl} (h : minOk s t A B = true) : minS s t A B = s := by unfold minS; rw [h]; rfl
theorem minE_good {s t : Nat} {A B : List Cl} (h : minOk s t A B = true) : minE s t A B = .int .i64 0 := by unfold minE; rw [h]; rfl
end Go.Proofs.Ytmlbkcpmgcjblaa

/- peel.Own by types. -/
namespace Go.Proofs.Ytmlbkcpmgcjblaa
open Go.RowKit

/-- The address of a result that is read. -/
def Ty.resA (P M : List Sm) (sd : Nat) (L : List Cl) : Ty := ⟨fun w v => ∃ p q s, (Ty.at_ ResT [p, q, .int .u64 (sd : Int), s]).p w v ∧ SlP w 34 p P.length (flat P) ∧ SlP w 34 q M.length (flat M) ∧ SlP w 87 s L.length (flatC L), fun t => t == ResT || (t == 34 || t == 87), fun {w w' v G} ⟨p, q, s, h1, h2, h3, h4⟩ k hA => by
  have a0 : Apart w G (fun t => t == ResT) := fun b hb hl => let ⟨cs, t, fr, k1, k2⟩ := hA b hb hl; ⟨cs, t, fr, k1, by simp only [Bool.or_eq_false_iff] at k2; exact k2.1⟩
  have a1 : Apart w G (fun t => t == 34) := fun b hb hl => let ⟨cs, t, fr, k1, k2⟩ := hA b hb hl; ⟨cs, t, fr, k1, by simp only [Bool.or_eq_false_iff] at k2; exact k2.2.1⟩
  have a2 : Apart w G (fun t => t == 87) := fun b hb hl => let ⟨cs, t, fr, k1, k2⟩ := hA b hb hl; ⟨cs, t, fr, k1, by simp only [Bool.or_eq_false_iff] at k2; exact k2.2.2⟩
  exact ⟨p, q, s, (Ty.at_ ResT _).st h1 k a0, (Ty.sums 34 P).st h2 k a1, (Ty.sums 34 M).st h3 k a1, (Ty.cls 87 L).st h4 k a2⟩⟩
section
variable {ops : Array Oper} {Q : Exit → Act → World → Prop} {N : Nat} {Γ : Ctx} {a : Act} {w : World} {o1 o2 : Oper} {rest : List Oper}
theorem tlNewRes {p q : Nat} {P M : List Sm} {seed : Nat} {L : List Cl} (hF : Fr N Γ a w) (h1 : o1.op = .alloc ResT) (hg1 : o1.guard = none) (hd1 : o1.dst = some p) (hp : p < N) (hpq : Nat.beq p q = false)
    (h2 : o2.op = .store ResT (.tmp p) (.tmp q)) (hg2 : o2.guard = none) (hd2 : o2.dst = none) (hq : look Γ q = some (Ty.res P M seed L))
    (hk : ∀ a' w', Fr N ((p, Ty.resA P M seed L) :: Γ) a' w' → Below w.heap.size w w' → wpList Try.prog ops Q rest a' w') : wpList Try.prog ops Q (o1 :: o2 :: rest) a w := by
  obtain ⟨v, ⟨x, y, s, rfl, k1, k2, k3⟩, hFo⟩ := hF.open hq
  refine wpList_plain hg1 fun K hK => ?_
  unfold Oper.wp execOp
  simp only [h1, Sem.run_bind, run_alloc_i infoRes, Result.andThen_ok, Sem.run_pure]
  refine hK _ _ ?_
  rw [hd1]
  have hb1 : Below w.heap.size w (w.alloc (.cells #[nilS, nilS, .int .u64 0, nilS] ResT)) := ((Keeps.refl [] w).alloc _).below
  have hF1 : Fr N ((p, Ty.ex (.pointer (some ⟨w.heap.size, 0, none⟩))) :: (q, Ty.ex (.agg #[x, y, .int .u64 (seed : Int), s])) :: Γ) (a.put (some p) (.pointer (some ⟨w.heap.size, 0, none⟩))) (w.alloc (.cells #[nilS, nilS, .int .u64 0, nilS] ResT)) := hFo.put hp hb1 rfl
  have hv3 := hF1.getEx (s := q) (v := .agg #[x, y, .int .u64 (seed : Int), s]) (by rw [look]; simp only [hpq, cond_false]; exact look_same _ _ _)
  refine tlStoreV (Δ := []) hF1 hg2 hd2 h2 (look_same _ _ _) hv3 (Blk.new w _ _) rfl (by rw [sizeRes]; rfl) (res_one (sl_isA k1) (sl_isA k2) (sl_isA k3)) (hF1.keep []) rfl ?_
  intro w' _ hb' hkx
  have hB := below_own hb1 hkx (by intro y hy; simp only [List.mem_singleton] at hy; omega)
  refine hk _ _ (hF.put hp hB ⟨x, y, s, ⟨w.heap.size, 0, _, (0, 0), rfl, hb', fun j u h => by simpa [Value.cells] using h⟩, (Ty.sums 34 P).below k1 hB, (Ty.sums 34 M).below k2 hB, (Ty.cls 87 L).below k3 hB⟩) hB
end
section
variable {w0 : World} {Γ : Ctx} {o : Oper} {x : Operand} {e : TypeId} {xs : List Value}
theorem sizeSL1 : (Try.prog.info? 25).map (·.size) = some 1 := by kernel_rfl
theorem cResP (ho : o.op = .fieldAddr ResT x 0) (hx : Has w0 Γ x (Ty.at_ e xs)) : OpOk Try.prog w0 Γ o (Ty.at_ e xs) :=
  (cFieldE (P := Try.prog) ho hx Try.underlying83 rfl sizeSL1).conv fun _ _ h => h
theorem cResM (ho : o.op = .fieldAddr ResT x 1) (hx : Has w0 Γ x (Ty.at_ e xs)) : OpOk Try.prog w0 Γ o (Ty.at_ e (xs.drop 1)) :=
  cFieldE (P := Try.prog) ho hx Try.underlying83 rfl sizeSL1
end
theorem sums_nil (w : World) : (Ty.sums 34 []).p w nilS := sl_nil w 34
theorem own_min {seed : Nat} {L : List Cl} {M : List Sm} (hg : goodN (L.length : Int) = true) : minOk seed seed L (ofL seed (L.length : Int) M) = true := minOk_good hg (ofL_len' hg).symm
set_option maxRecDepth 100000 in
set_option maxHeartbeats 4000000 in
theorem own_ty (seed : Nat) (L : List Cl) (M : List Sm) (hM : M.length ≤ 1000000) (hsd : seed < 18446744073709551616) : Fn2 Try.prog 60 (Ty.tab 87 seed L) (Ty.sums 34 M) (Ty.tup [Ty.sums 34 (ownP seed L M), Ty.sums 34 (ownQ seed L M), Ty.ex (.int .i64 (ownN seed L M))]) := by
  refine ⟨fun args w => by kernel_rfl, fun w v u ⟨s, hv, hs⟩ hu => ?_⟩
  subst hv
  have hG := tgood_ty seed L
  have hGd := good_ty M hM
  have eN := ownN.eq_1 seed L M
  refine enter_ty 63 [Ty.ex (.agg #[.int .u64 (seed : Int), s]), Ty.ex u] Try.func60 rfl (by kernel_rfl) ⟨rfl, rfl, trivial⟩ fun a hF => ?_
  have hB := Below.refl w.heap.size w
  let TL := Ty.cls 87 L
  let TM := Ty.sums 34 M
  repeat with_reducible first | refine wp_seq ?_ | refine nThen ?_ | refine nBlk ?_ | refine wp_skip ?_ | refine wp_block ?_ | refine wp_ret ?_ | refine rThen ?_ | refine rBlk ?_
  refine' reg_all hF ?_ mixed (by kernel_rfl) ?_
  rotate_left
  · repeat (first
        | exact Line.nil
        | (refine' Line.cons rfl (.no rfl rfl rfl rfl rfl rfl) ?_; rotate_left)
        | ((first | refine' Line.cons rfl (.run rfl rfl ?_) ?_ | refine' Line.cons rfl (.yes rfl rfl rfl rfl ?_) ?_)
           any_goals (first | exact cMove rfl rfl | exact cAssign rfl rfl | exact cNot rfl rfl | exact cBoxTab rfl rfl | exact cPickT rfl rfl rfl | exact cPickF rfl rfl rfl | exact cGtr rfl rfl rfl | exact cNeq rfl rfl rfl | exact cExtract rfl rfl rfl)
           rotate_left))
  intro a w1 hF hb hN
  have hBs := hB.size
  replace hB := hB.trans (hb.mono hB.size)
  dsimp only [ext, Option.getD] at hF
  repeat with_reducible first | refine wp_seq ?_ | refine nThen ?_ | refine nBlk ?_ | refine wp_skip ?_ | refine wp_block ?_ | refine wp_ret ?_ | refine rThen ?_ | refine rBlk ?_
  have hs1 := TL.below hs hB
  have hu1 := TM.below hu hB
  have ht1 : (Ty.tab 87 seed L).p w1 (.agg #[.int .u64 (seed : Int), s]) := ⟨s, rfl, hs1⟩
  repeat with_reducible first | refine wp_seq ?_ | refine nThen ?_ | refine nBlk ?_ | refine wp_skip ?_ | refine wp_block ?_ | refine wp_ret ?_ | refine rThen ?_ | refine rBlk ?_
  refine wp_mono (Q := fun e a w' => e = .normal ∧ Fr 63 [(1, Ty.ex u), (2, Ty.at_ 41 [.int .u64 (seed : Int), s]), (20, Ty.ex (.bool (!(goodN (L.length : Int) && goodL M))))] a w' ∧ Below w.heap.size w w') ?_ ?_
  · cases hg : goodN (L.length : Int) with
    | false =>
      rw [hg] at hG
      rw [Bool.false_and]
      refine' reg_all hF ?_ mixed (by kernel_rfl) ?_
      rotate_left
      · repeat (first
            | exact Line.nil
            | (refine' Line.cons rfl (.no rfl rfl rfl rfl rfl rfl) ?_; rotate_left)
            | ((first | refine' Line.cons rfl (.run rfl rfl ?_) ?_ | refine' Line.cons rfl (.yes rfl rfl rfl rfl ?_) ?_)
               any_goals (first | exact cMove rfl rfl | exact cAssign rfl rfl | exact cNot rfl rfl | exact cLoadT46 rfl (.t rfl) | exact cCallH1 rfl (.l rfl ht1) hG | exact cPickT rfl rfl rfl | exact cPickF rfl rfl rfl | exact cGtr rfl rfl rfl | exact cNeq rfl rfl rfl | exact cExtract rfl rfl rfl)
               rotate_left))
      intro a w2 hF hb hN
      have hBs := hB.size
      replace hB := hB.trans (hb.mono hB.size)
      dsimp only [ext, Option.getD] at hF
      repeat with_reducible first | refine wp_seq ?_ | refine nThen ?_ | refine nBlk ?_ | refine wp_skip ?_ | refine wp_block ?_ | refine wp_ret ?_ | refine rThen ?_ | refine rBlk ?_
      exact ⟨rfl, hF.keep [1, 2, 20], hB⟩
    | true =>
      rw [hg] at hG
      rw [Bool.true_and]
      refine' reg_all hF ?_ mixed (by kernel_rfl) ?_
      rotate_left
      · repeat (first
            | exact Line.nil
            | (refine' Line.cons rfl (.no rfl rfl rfl rfl rfl rfl) ?_; rotate_left)
            | ((first | refine' Line.cons rfl (.run rfl rfl ?_) ?_ | refine' Line.cons rfl (.yes rfl rfl rfl rfl ?_) ?_)
               any_goals (first | exact cMove rfl rfl | exact cAssign rfl rfl | exact cNot rfl rfl | exact cLoadT46 rfl (.t rfl) | exact cCallH1 rfl (.l rfl ht1) hG | exact cCallH1 rfl (.l rfl hu1) hGd | exact cPickT rfl rfl rfl | exact cPickF rfl rfl rfl | exact cGtr rfl rfl rfl | exact cNeq rfl rfl rfl | exact cExtract rfl rfl rfl)
               rotate_left))
      intro a w2 hF hb hN
      have hBs := hB.size
      replace hB := hB.trans (hb.mono hB.size)
      dsimp only [ext, Option.getD] at hF
      repeat with_reducible first | refine wp_seq ?_ | refine nThen ?_ | refine nBlk ?_ | refine wp_skip ?_ | refine wp_block ?_ | refine wp_ret ?_ | refine rThen ?_ | refine rBlk ?_
      exact ⟨rfl, hF.keep [1, 2, 20], hB⟩
  clear hF hB hs1 hu1 ht1
  rintro e a w2 ⟨rfl, hF, hB⟩
  repeat with_reducible first | refine wp_seq ?_ | refine nThen ?_ | refine nBlk ?_ | refine wp_skip ?_ | refine wp_block ?_ | refine wp_ret ?_ | refine rThen ?_ | refine rBlk ?_
  cases hok : (goodN (L.length : Int) && goodL M) with
  | false =>
    rw [hok] at hF eN
    rw [if_neg (by decide)] at eN
    rw [show ownP seed L M = [] by unfold ownP; rw [eN]; rfl, show ownQ seed L M = [] by unfold ownQ; rw [eN]; rfl, eN]
    refine cond_t hF rfl ?_
    repeat with_reducible first | refine wp_seq ?_ | refine nThen ?_ | refine nBlk ?_ | refine wp_skip ?_ | refine wp_block ?_ | refine wp_ret ?_ | refine rThen ?_ | refine rBlk ?_
    refine' reg_all hF ?_ mixed (by kernel_rfl) ?_
    rotate_left
    · repeat (first
          | exact Line.nil
          | (refine' Line.cons rfl (.no rfl rfl rfl rfl rfl rfl) ?_; rotate_left)
          | ((first | refine' Line.cons rfl (.run rfl rfl ?_) ?_ | refine' Line.cons rfl (.yes rfl rfl rfl rfl ?_) ?_)
             any_goals (first | exact cMove rfl rfl | exact cAssign rfl rfl | exact cNot rfl rfl | exact cPickT rfl rfl rfl | exact cPickF rfl rfl rfl | exact cGtr rfl rfl rfl | exact cNeq rfl rfl rfl | exact cExtract rfl rfl rfl)
             rotate_left))
    intro a w3 hF hb hN
    have hBs := hB.size
    replace hB := hB.trans (hb.mono hB.size)
    dsimp only [ext, Option.getD] at hF
    repeat with_reducible first | refine wp_seq ?_ | refine nThen ?_ | refine nBlk ?_ | refine wp_skip ?_ | refine wp_block ?_ | refine wp_ret ?_ | refine rThen ?_ | refine rBlk ?_
    refine ret3 hF rfl rfl rfl rfl fun a b c ha hb hc => ?_
    exact ⟨_, rfl, ⟨[a, b, c], rfl, by rw [show a = nilS from ha]; exact sums_nil _, by rw [show b = nilS from hb]; exact sums_nil _, hc, trivial⟩, hB⟩
  | true =>
  rw [hok] at hF eN
  rw [if_pos rfl] at eN
  simp only [Bool.and_eq_true] at hok
  obtain ⟨hgd, _⟩ := hok
  have o1 := tof_ty seed (L.length : Int) M hM hsd
  rw [newE_good hgd, newS_good hgd] at o1
  have m1 := tminus_ty seed seed L (ofL seed (L.length : Int) M)
  have k1 := own_min (seed := seed) (M := M) hgd
  rw [minL_good k1, minS_good k1, minE_good k1] at m1
  have eD : tminus L (ofL seed (L.length : Int) M) = ownD seed L M := rfl
  rw [eD] at m1
  have hDl := ownD_len (seed := seed) (M := M) hgd
  have hAll := pall_ty seed (ownD seed L M) hsd
  have eB := ownB.eq_1 seed L M
  have eP : ownP seed L M = if ownN seed L M = 0 then resP seed (ownD seed L M) else [] := rfl
  have eQ : ownQ seed L M = if ownN seed L M = 0 then resM seed (ownD seed L M) else [] := rfl
  rw [eP, eQ, eN, eB]
  clear eP eQ eN eB eD k1
  have hPl := resP_len (seed := seed) (L := ownD seed L M)
  have hQl := resM_len (seed := seed) (L := ownD seed L M)
  generalize ownD seed L M = D at *
  generalize ofL seed (L.length : Int) M = O at *
  generalize resN seed D = en at *
  generalize resP seed D = P at *
  generalize resM seed D = K at *
  generalize resS seed D = sd at *
  generalize resL seed D = RL at *
  have hmn := minus_ty K M (by omega) hM
  have hbt := both_ty P M (by omega) hM
  refine cond_f hF rfl ?_
  repeat with_reducible first | refine wp_seq ?_ | refine nThen ?_ | refine nBlk ?_ | refine wp_skip ?_ | refine wp_block ?_ | refine wp_ret ?_ | refine rThen ?_ | refine rBlk ?_
  have hs2 := TL.below hs hB
  have hu2 := TM.below hu hB
  have ht2 : (Ty.tab 87 seed L).p w2 (.agg #[.int .u64 (seed : Int), s]) := ⟨s, rfl, hs2⟩
  refine wp_region_lit ?_
  refine' tlOp hF rfl rfl rfl ?_ ?_
  rotate_left
  · first | exact cMove rfl rfl | exact cFldS46 rfl (.t rfl) | exact cLoadU64 rfl (.t rfl) | exact cFldL46 rfl (.t rfl) | exact cRowOf46 rfl (.t rfl) | exact cLenH rfl (.l rfl (TL.below hs hB)) (Ty.sl_isSl _ _ _) Try.underlying39 | exact cCallR3 rfl (.t rfl) (.t rfl) (.l rfl (TM.below hu hB)) o1 (tabE_olds _ _ _ _)
  intro a w5_0 hF hb
  replace hB := hB.trans (hb.mono hB.size)
  refine' tlOp hF rfl rfl rfl ?_ ?_
  rotate_left
  · first | exact cMove rfl rfl | exact cFldS46 rfl (.t rfl) | exact cLoadU64 rfl (.t rfl) | exact cFldL46 rfl (.t rfl) | exact cRowOf46 rfl (.t rfl) | exact cLenH rfl (.l rfl (TL.below hs hB)) (Ty.sl_isSl _ _ _) Try.underlying39 | exact cCallR3 rfl (.t rfl) (.t rfl) (.l rfl (TM.below hu hB)) o1 (tabE_olds _ _ _ _)
  intro a w5_1 hF hb
  replace hB := hB.trans (hb.mono hB.size)
  refine' tlOp hF rfl rfl rfl ?_ ?_
  rotate_left
  · first | exact cMove rfl rfl | exact cFldS46 rfl (.t rfl) | exact cLoadU64 rfl (.t rfl) | exact cFldL46 rfl (.t rfl) | exact cRowOf46 rfl (.t rfl) | exact cLenH rfl (.l rfl (TL.below hs hB)) (Ty.sl_isSl _ _ _) Try.underlying39 | exact cCallR3 rfl (.t rfl) (.t rfl) (.l rfl (TM.below hu hB)) o1 (tabE_olds _ _ _ _)
  intro a w5_2 hF hb
  replace hB := hB.trans (hb.mono hB.size)
  refine' tlOp hF rfl rfl rfl ?_ ?_
  rotate_left
  · first | exact cMove rfl rfl | exact cFldS46 rfl (.t rfl) | exact cLoadU64 rfl (.t rfl) | exact cFldL46 rfl (.t rfl) | exact cRowOf46 rfl (.t rfl) | exact cLenH rfl (.l rfl (TL.below hs hB)) (Ty.sl_isSl _ _ _) Try.underlying39 | exact cCallR3 rfl (.t rfl) (.t rfl) (.l rfl (TM.below hu hB)) o1 (tabE_olds _ _ _ _)
  intro a w5_3 hF hb
  replace hB := hB.trans (hb.mono hB.size)
  refine' tlOp hF rfl rfl rfl ?_ ?_
  rotate_left
  · first | exact cMove rfl rfl | exact cFldS46 rfl (.t rfl) | exact cLoadU64 rfl (.t rfl) | exact cFldL46 rfl (.t rfl) | exact cRowOf46 rfl (.t rfl) | exact cLenH rfl (.l rfl (TL.below hs hB)) (Ty.sl_isSl _ _ _) Try.underlying39 | exact cCallR3 rfl (.t rfl) (.t rfl) (.l rfl (TM.below hu hB)) o1 (tabE_olds _ _ _ _)
  intro a w5_4 hF hb
  replace hB := hB.trans (hb.mono hB.size)
  refine' tlOp hF rfl rfl rfl ?_ ?_
  rotate_left
  · first | exact cMove rfl rfl | exact cFldS46 rfl (.t rfl) | exact cLoadU64 rfl (.t rfl) | exact cFldL46 rfl (.t rfl) | exact cRowOf46 rfl (.t rfl) | exact cLenH rfl (.l rfl (TL.below hs hB)) (Ty.sl_isSl _ _ _) Try.underlying39 | exact cCallR3 rfl (.t rfl) (.t rfl) (.l rfl (TM.below hu hB)) o1 (tabE_olds _ _ _ _)
  intro a w5_5 hF hb
  replace hB := hB.trans (hb.mono hB.size)
  refine' tlOp hF rfl rfl rfl ?_ ?_
  rotate_left
  · first | exact cMove rfl rfl | exact cFldS46 rfl (.t rfl) | exact cLoadU64 rfl (.t rfl) | exact cFldL46 rfl (.t rfl) | exact cRowOf46 rfl (.t rfl) | exact cLenH rfl (.l rfl (TL.below hs hB)) (Ty.sl_isSl _ _ _) Try.underlying39 | exact cCallR3 rfl (.t rfl) (.t rfl) (.l rfl (TM.below hu hB)) o1 (tabE_olds _ _ _ _)
  intro a w5_6 hF hb
  replace hB := hB.trans (hb.mono hB.size)
  refine' tlOp hF rfl rfl rfl ?_ ?_
  rotate_left
  · first | exact cMove rfl rfl | exact cFldS46 rfl (.t rfl) | exact cLoadU64 rfl (.t rfl) | exact cFldL46 rfl (.t rfl) | exact cRowOf46 rfl (.t rfl) | exact cLenH rfl (.l rfl (TL.below hs hB)) (Ty.sl_isSl _ _ _) Try.underlying39 | exact cCallR3 rfl (.t rfl) (.t rfl) (.l rfl (TM.below hu hB)) o1 (tabE_olds _ _ _ _)
  intro a w5_7 hF hb
  replace hB := hB.trans (hb.mono hB.size)
  refine' tlOp hF rfl rfl rfl ?_ ?_
  rotate_left
  · exact cExtT rfl rfl
  intro a w5_t hF hb
  replace hB := hB.trans (hb.mono hB.size)
  refine' tlOp hF rfl rfl rfl ?_ ?_
  rotate_left
  · exact cExtE rfl rfl
  intro a w5_e hF hb
  replace hB := hB.trans (hb.mono hB.size)
  refine tlNewTab hF rfl rfl rfl (by decide) rfl (run_alloc_i infoT46) rfl rfl rfl rfl tabO_tab sizeT46 fun a w5_n hF hb => ?_
  replace hB := hB.trans (hb.mono hB.size)
  refine' tlOp hF rfl rfl rfl ?_ ?_
  rotate_left
  · exact cAssign rfl rfl
  intro a w5 hF hb
  replace hB := hB.trans (hb.mono hB.size)
  try (refine wpList_nil ?_)
  repeat with_reducible first | refine wp_seq ?_ | refine nThen ?_ | refine nBlk ?_ | refine wp_skip ?_ | refine wp_block ?_ | refine wp_ret ?_ | refine rThen ?_ | refine rBlk ?_
  refine wp_region_lit ?_
  refine' tlOp hF rfl rfl rfl ?_ ?_
  rotate_left
  · first | exact cMove rfl rfl | exact cLoadT46 rfl (.t rfl) | exact cLoadTab46 rfl (.t rfl) | exact cCallR2 rfl (Has.l (τ := Ty.tab 87 seed L) rfl ⟨s, rfl, TL.below hs hB⟩) (.t rfl) m1 (tabE_olds _ _ _ _)
  intro a w6_0 hF hb
  replace hB := hB.trans (hb.mono hB.size)
  refine' tlOp hF rfl rfl rfl ?_ ?_
  rotate_left
  · first | exact cMove rfl rfl | exact cLoadT46 rfl (.t rfl) | exact cLoadTab46 rfl (.t rfl) | exact cCallR2 rfl (Has.l (τ := Ty.tab 87 seed L) rfl ⟨s, rfl, TL.below hs hB⟩) (.t rfl) m1 (tabE_olds _ _ _ _)
  intro a w6_1 hF hb
  replace hB := hB.trans (hb.mono hB.size)
  refine' tlOp hF rfl rfl rfl ?_ ?_
  rotate_left
  · first | exact cMove rfl rfl | exact cLoadT46 rfl (.t rfl) | exact cLoadTab46 rfl (.t rfl) | exact cCallR2 rfl (Has.l (τ := Ty.tab 87 seed L) rfl ⟨s, rfl, TL.below hs hB⟩) (.t rfl) m1 (tabE_olds _ _ _ _)
  intro a w6_2 hF hb
  replace hB := hB.trans (hb.mono hB.size)
  refine' tlOp hF rfl rfl rfl ?_ ?_
  rotate_left
  · first | exact cMove rfl rfl | exact cLoadT46 rfl (.t rfl) | exact cLoadTab46 rfl (.t rfl) | exact cCallR2 rfl (Has.l (τ := Ty.tab 87 seed L) rfl ⟨s, rfl, TL.below hs hB⟩) (.t rfl) m1 (tabE_olds _ _ _ _)
  intro a w6_3 hF hb
  replace hB := hB.trans (hb.mono hB.size)
  refine' tlOp hF rfl rfl rfl ?_ ?_
  rotate_left
  · exact cExtT rfl rfl
  intro a w6_t hF hb
  replace hB := hB.trans (hb.mono hB.size)
  refine' tlOp hF rfl rfl rfl ?_ ?_
  rotate_left
  · exact cExtE rfl rfl
  intro a w6_e hF hb
  replace hB := hB.trans (hb.mono hB.size)
  refine tlNewTab hF rfl rfl rfl (by decide) rfl (run_alloc_i infoT46) rfl rfl rfl rfl tabO_tab sizeT46 fun a w6_n hF hb => ?_
  replace hB := hB.trans (hb.mono hB.size)
  refine' tlOp hF rfl rfl rfl ?_ ?_
  rotate_left
  · exact cAssign rfl rfl
  intro a w6 hF hb
  replace hB := hB.trans (hb.mono hB.size)
  try (refine wpList_nil ?_)
  repeat with_reducible first | refine wp_seq ?_ | refine nThen ?_ | refine nBlk ?_ | refine wp_skip ?_ | refine wp_block ?_ | refine wp_ret ?_ | refine rThen ?_ | refine rBlk ?_
  refine wp_region_lit ?_
  refine' tlOp hF rfl rfl rfl ?_ ?_
  rotate_left
  · first | exact cMove rfl rfl | exact cLoadTab46 rfl (.t rfl) | exact cCall1 rfl rfl hAll
  intro a w7_0 hF hb
  replace hB := hB.trans (hb.mono hB.size)
  refine' tlOp hF rfl rfl rfl ?_ ?_
  rotate_left
  · first | exact cMove rfl rfl | exact cLoadTab46 rfl (.t rfl) | exact cCall1 rfl rfl hAll
  intro a w7_1 hF hb
  replace hB := hB.trans (hb.mono hB.size)
  refine' tlOp hF rfl rfl rfl ?_ ?_
  rotate_left
  · first | exact cMove rfl rfl | exact cLoadTab46 rfl (.t rfl) | exact cCall1 rfl rfl hAll
  intro a w7_2 hF hb
  replace hB := hB.trans (hb.mono hB.size)
  refine' tlOp hF rfl rfl rfl ?_ ?_
  rotate_left
  · exact cExtract rfl rfl rfl
  intro a w7_t hF hb
  replace hB := hB.trans (hb.mono hB.size)
  refine' tlOp hF rfl rfl rfl ?_ ?_
  rotate_left
  · exact cExtract rfl rfl rfl
  intro a w7_e hF hb
  replace hB := hB.trans (hb.mono hB.size)
  refine tlNewRes hF rfl rfl rfl (by decide) rfl rfl rfl rfl rfl fun a w7_n hF hb => ?_
  replace hB := hB.trans (hb.mono hB.size)
  refine' tlOp hF rfl rfl rfl ?_ ?_
  rotate_left
  · exact cAssign rfl rfl
  intro a w7 hF hb
  replace hB := hB.trans (hb.mono hB.size)
  try (refine wpList_nil ?_)
  repeat with_reducible first | refine wp_seq ?_ | refine nThen ?_ | refine nBlk ?_ | refine wp_skip ?_ | refine wp_block ?_ | refine wp_ret ?_ | refine rThen ?_ | refine rBlk ?_
  obtain ⟨v11, ⟨p, q, s', hat, r1, r2, r3⟩, hF⟩ := hF.open (s := 11) rfl
  have hu7 := TM.below hu hB
  clear r3 ht2 hs2 hu2
  repeat with_reducible first | refine wp_seq ?_ | refine nThen ?_ | refine nBlk ?_ | refine wp_skip ?_ | refine wp_block ?_ | refine wp_ret ?_ | refine rThen ?_ | refine rBlk ?_
  by_cases h0 : en = 0
  rotate_left
  · rw [if_neg h0]
    rw [if_neg (show ¬ en = 0 from h0), if_neg (show ¬ en = 0 from h0)]
    refine' reg_all hF ?_ mixed (by kernel_rfl) ?_
    rotate_left
    · repeat (first
          | exact Line.nil
          | (refine' Line.cons rfl (.no rfl rfl rfl rfl rfl rfl) ?_; rotate_left)
          | ((first | refine' Line.cons rfl (.run rfl rfl ?_) ?_ | refine' Line.cons rfl (.yes rfl rfl rfl rfl ?_) ?_)
             any_goals (first | exact cMove rfl rfl | exact cAssign rfl rfl | exact cNot rfl rfl | exact OpOk.b (c := true) (cNeq rfl rfl rfl) (by rw [decide_eq_false h0]; rfl) | exact cPickT rfl rfl rfl | exact cPickF rfl rfl rfl | exact cGtr rfl rfl rfl | exact cNeq rfl rfl rfl | exact cExtract rfl rfl rfl)
             rotate_left))
    intro a w8 hF hb hN
    have hBs := hB.size
    replace hB := hB.trans (hb.mono hB.size)
    dsimp only [ext, Option.getD] at hF
    repeat with_reducible first | refine wp_seq ?_ | refine nThen ?_ | refine nBlk ?_ | refine wp_skip ?_ | refine wp_block ?_ | refine wp_ret ?_ | refine rThen ?_ | refine rBlk ?_
    refine cond_t hF rfl ?_
    repeat with_reducible first | refine wp_seq ?_ | refine nThen ?_ | refine nBlk ?_ | refine wp_skip ?_ | refine wp_block ?_ | refine wp_ret ?_ | refine rThen ?_ | refine rBlk ?_
    refine' reg_all hF ?_ mixed (by kernel_rfl) ?_
    rotate_left
    · repeat (first
          | exact Line.nil
          | (refine' Line.cons rfl (.no rfl rfl rfl rfl rfl rfl) ?_; rotate_left)
          | ((first | refine' Line.cons rfl (.run rfl rfl ?_) ?_ | refine' Line.cons rfl (.yes rfl rfl rfl rfl ?_) ?_)
             any_goals (first | exact cMove rfl rfl | exact cAssign rfl rfl | exact cNot rfl rfl | exact cPickT rfl rfl rfl | exact cPickF rfl rfl rfl | exact cGtr rfl rfl rfl | exact cNeq rfl rfl rfl | exact cExtract rfl rfl rfl)
             rotate_left))
    intro a w9 hF hb hN
    have hBs := hB.size
    replace hB := hB.trans (hb.mono hB.size)
    dsimp only [ext, Option.getD] at hF
    repeat with_reducible first | refine wp_seq ?_ | refine nThen ?_ | refine nBlk ?_ | refine wp_skip ?_ | refine wp_block ?_ | refine wp_ret ?_ | refine rThen ?_ | refine rBlk ?_
    refine ret3 hF rfl rfl rfl rfl fun a b c ha hb hc => ?_
    exact ⟨_, rfl, ⟨[a, b, c], rfl, by rw [show a = nilS from ha]; exact sums_nil _, by rw [show b = nilS from hb]; exact sums_nil _, hc, trivial⟩, hB⟩
  rw [if_pos h0]
  refine' reg_all hF ?_ mixed (by kernel_rfl) ?_
  rotate_left
  · repeat (first
        | exact Line.nil
        | (refine' Line.cons rfl (.no rfl rfl rfl rfl rfl rfl) ?_; rotate_left)
        | ((first | refine' Line.cons rfl (.run rfl rfl ?_) ?_ | refine' Line.cons rfl (.yes rfl rfl rfl rfl ?_) ?_)
           any_goals (first | exact cMove rfl rfl | exact cAssign rfl rfl | exact cNot rfl rfl | exact OpOk.b (c := false) (cNeq rfl rfl rfl) (by rw [decide_eq_true h0]; rfl) | exact cPickT rfl rfl rfl | exact cPickF rfl rfl rfl | exact cGtr rfl rfl rfl | exact cNeq rfl rfl rfl | exact cExtract rfl rfl rfl)
           rotate_left))
  intro a w8 hF hb hN
  have hBs := hB.size
  replace hB := hB.trans (hb.mono hB.size)
  dsimp only [ext, Option.getD] at hF
  repeat with_reducible first | refine wp_seq ?_ | refine nThen ?_ | refine nBlk ?_ | refine wp_skip ?_ | refine wp_block ?_ | refine wp_ret ?_ | refine rThen ?_ | refine rBlk ?_
  refine cond_f hF rfl ?_
  repeat with_reducible first | refine wp_seq ?_ | refine nThen ?_ | refine nBlk ?_ | refine wp_skip ?_ | refine wp_block ?_ | refine wp_ret ?_ | refine rThen ?_ | refine rBlk ?_
  have hat8 := (Ty.at_ ResT [p, q, .int .u64 (sd : Int), s']).below hat hb
  have r18 := (Ty.sums 34 P).below r1 hb
  have r28 := (Ty.sums 34 K).below r2 hb
  have hu8 := TM.below hu7 hb
  have e1 : decide ((0 : Int) < ((minusL K M).length : Int)) = decide (0 < (minusL K M).length) := decide_eq_decide.2 (by omega)
  have e2 : decide ((0 : Int) < ((bothL P M).length : Int)) = decide (0 < (bothL P M).length) := decide_eq_decide.2 (by omega)
  refine' reg_all hF ?_ mixed (by kernel_rfl) ?_
  rotate_left
  · repeat (first
        | exact Line.nil
        | (refine' Line.cons rfl (.no rfl rfl rfl rfl rfl rfl) ?_; rotate_left)
        | ((first | refine' Line.cons rfl (.run rfl rfl ?_) ?_ | refine' Line.cons rfl (.yes rfl rfl rfl rfl ?_) ?_)
           any_goals (first | exact cMove rfl rfl | exact cAssign rfl rfl | exact cNot rfl rfl | exact cResM rfl (.l rfl hat8) | exact cLoad1 (u := q) rfl (.t rfl) (pts_at _ _) Try.underlying25 rfl | exact cCallS2 rfl (.l rfl r28) (.l rfl hu8) hmn | exact cLenH rfl (.t rfl) (Ty.seg_isSl _ _ _ _ _) Try.underlying25 | exact OpOk.b (cGtr rfl rfl rfl) e1 | exact cPickT rfl rfl rfl | exact cPickF rfl rfl rfl | exact cGtr rfl rfl rfl | exact cNeq rfl rfl rfl | exact cExtract rfl rfl rfl)
           rotate_left))
  intro a w9 hF hb hN
  have hBs := hB.size
  replace hB := hB.trans (hb.mono hB.size)
  dsimp only [ext, Option.getD] at hF
  repeat with_reducible first | refine wp_seq ?_ | refine nThen ?_ | refine nBlk ?_ | refine wp_skip ?_ | refine wp_block ?_ | refine wp_ret ?_ | refine rThen ?_ | refine rBlk ?_
  have hat9 := (Ty.at_ ResT [p, q, .int .u64 (sd : Int), s']).below hat8 hb
  have r19 := (Ty.sums 34 P).below r18 hb
  have r29 := (Ty.sums 34 K).below r28 hb
  have hu9 := TM.below hu8 hb
  have hB9 := hB
  replace hB := Below.refl w9.heap.size w9
  refine wp_mono (Q := fun e a w' => e = .normal ∧ Fr 63 [(11, Ty.ex v11), (46, Ty.ex (.bool (decide (0 < (minusL K M).length) || decide (0 < (bothL P M).length))))] a w' ∧ Below w9.heap.size w9 w') ?_ ?_
  · cases hA : decide (0 < (minusL K M).length) with
    | true =>
      rw [hA] at hF
      rw [Bool.true_or]
      refine cond_t hF rfl ?_
      repeat with_reducible first | refine wp_seq ?_ | refine nThen ?_ | refine nBlk ?_ | refine wp_skip ?_ | refine wp_block ?_ | refine wp_ret ?_ | refine rThen ?_ | refine rBlk ?_
      exact ⟨rfl, hF.keep [11, 46], hB⟩
    | false =>
      rw [hA] at hF
      rw [Bool.false_or]
      refine cond_f hF rfl ?_
      repeat with_reducible first | refine wp_seq ?_ | refine nThen ?_ | refine nBlk ?_ | refine wp_skip ?_ | refine wp_block ?_ | refine wp_ret ?_ | refine rThen ?_ | refine rBlk ?_
      refine' reg_all hF ?_ mixed (by kernel_rfl) ?_
      rotate_left
      · repeat (first
            | exact Line.nil
            | (refine' Line.cons rfl (.no rfl rfl rfl rfl rfl rfl) ?_; rotate_left)
            | ((first | refine' Line.cons rfl (.run rfl rfl ?_) ?_ | refine' Line.cons rfl (.yes rfl rfl rfl rfl ?_) ?_)
               any_goals (first | exact cMove rfl rfl | exact cAssign rfl rfl | exact cNot rfl rfl | exact cResP rfl (.l rfl hat9) | exact cLoad1 (u := p) rfl (.t rfl) (pts_at _ _) Try.underlying25 rfl | exact cCallS2 rfl (.l rfl r19) (.l rfl hu9) hbt | exact cLenH rfl (.t rfl) (Ty.seg_isSl _ _ _ _ _) Try.underlying25 | exact OpOk.b (cGtr rfl rfl rfl) e2 | exact cPickT rfl rfl rfl | exact cPickF rfl rfl rfl | exact cGtr rfl rfl rfl | exact cNeq rfl rfl rfl | exact cExtract rfl rfl rfl)
               rotate_left))
      intro a w10 hF hb hN
      have hBs := hB.size
      replace hB := hB.trans (hb.mono hB.size)
      dsimp only [ext, Option.getD] at hF
      repeat with_reducible first | refine wp_seq ?_ | refine nThen ?_ | refine nBlk ?_ | refine wp_skip ?_ | refine wp_block ?_ | refine wp_ret ?_ | refine rThen ?_ | refine rBlk ?_
      exact ⟨rfl, hF.keep [11, 46], hB⟩
  clear hF hB
  rintro e a w10 ⟨rfl, hF, hb⟩
  have hB := hB9.trans (hb.mono hB9.size)
  replace hat9 := (Ty.at_ ResT [p, q, .int .u64 (sd : Int), s']).below hat9 hb
  replace r19 := (Ty.sums 34 P).below r19 hb
  replace r29 := (Ty.sums 34 K).below r29 hb
  repeat with_reducible first | refine wp_seq ?_ | refine nThen ?_ | refine nBlk ?_ | refine wp_skip ?_ | refine wp_block ?_ | refine wp_ret ?_ | refine rThen ?_ | refine rBlk ?_
  cases hbad : (decide (0 < (minusL K M).length) || decide (0 < (bothL P M).length)) with
  | true =>
    rw [hbad] at hF
    refine cond_t hF rfl ?_
    repeat with_reducible first | refine wp_seq ?_ | refine nThen ?_ | refine nBlk ?_ | refine wp_skip ?_ | refine wp_block ?_ | refine wp_ret ?_ | refine rThen ?_ | refine rBlk ?_
    refine' reg_all hF ?_ mixed (by kernel_rfl) ?_
    rotate_left
    · repeat (first
          | exact Line.nil
          | (refine' Line.cons rfl (.no rfl rfl rfl rfl rfl rfl) ?_; rotate_left)
          | ((first | refine' Line.cons rfl (.run rfl rfl ?_) ?_ | refine' Line.cons rfl (.yes rfl rfl rfl rfl ?_) ?_)
             any_goals (first | exact cMove rfl rfl | exact cAssign rfl rfl | exact cNot rfl rfl | exact cPickT rfl rfl rfl | exact cPickF rfl rfl rfl | exact cGtr rfl rfl rfl | exact cNeq rfl rfl rfl | exact cExtract rfl rfl rfl)
             rotate_left))
    intro a w11 hF hb hN
    have hBs := hB.size
    replace hB := hB.trans (hb.mono hB.size)
    dsimp only [ext, Option.getD] at hF
    repeat with_reducible first | refine wp_seq ?_ | refine nThen ?_ | refine nBlk ?_ | refine wp_skip ?_ | refine wp_block ?_ | refine wp_ret ?_ | refine rThen ?_ | refine rBlk ?_
    refine ret3 hF rfl rfl rfl rfl fun a b c ha hb hc => ?_
    exact ⟨_, rfl, ⟨[a, b, c], rfl, by rw [show a = nilS from ha]; exact sums_nil _, by rw [show b = nilS from hb]; exact sums_nil _, hc, trivial⟩, hB⟩
  | false =>
    rw [hbad] at hF
    refine cond_f hF rfl ?_
    repeat with_reducible first | refine wp_seq ?_ | refine nThen ?_ | refine nBlk ?_ | refine wp_skip ?_ | refine wp_block ?_ | refine wp_ret ?_ | refine rThen ?_ | refine rBlk ?_
    refine' reg_all hF ?_ mixed (by kernel_rfl) ?_
    rotate_left
    · repeat (first
          | exact Line.nil
          | (refine' Line.cons rfl (.no rfl rfl rfl rfl rfl rfl) ?_; rotate_left)
          | ((first | refine' Line.cons rfl (.run rfl rfl ?_) ?_ | refine' Line.cons rfl (.yes rfl rfl rfl rfl ?_) ?_)
             any_goals (first | exact cMove rfl rfl | exact cAssign rfl rfl | exact cNot rfl rfl | exact cResP rfl (.l rfl hat9) | exact cResM rfl (.l rfl hat9) | exact cLoad1 (u := p) rfl (.t rfl) (pts_at _ _) Try.underlying25 rfl | exact cLoad1 (u := q) rfl (.t rfl) (pts_at _ _) Try.underlying25 rfl | exact cPickT rfl rfl rfl | exact cPickF rfl rfl rfl | exact cGtr rfl rfl rfl | exact cNeq rfl rfl rfl | exact cExtract rfl rfl rfl)
             rotate_left))
    intro a w11 hF hb hN
    have hBs := hB.size
    replace hB := hB.trans (hb.mono hB.size)
    dsimp only [ext, Option.getD] at hF
    repeat with_reducible first | refine wp_seq ?_ | refine nThen ?_ | refine nBlk ?_ | refine wp_skip ?_ | refine wp_block ?_ | refine wp_ret ?_ | refine rThen ?_ | refine rBlk ?_
    refine ret3 hF rfl rfl rfl rfl fun a b c ha hb' hc => ?_
    exact ⟨_, rfl, ⟨[a, b, c], rfl, by rw [show a = p from ha]; exact (Ty.sums 34 P).below r19 hb, by rw [show b = q from hb']; exact (Ty.sums 34 K).below r29 hb, hc, trivial⟩, hB⟩
end Go.Proofs.Ytmlbkcpmgcjblaa

/- Layer 16 by types: awake, PeelSelf, PeelOne, PeelRoom. -/
namespace Go.Proofs.Ytmlbkcpmgcjblaa
open Go.RowKit

theorem few12 : ¬ fewS 1 = fewS 2 := fun h => absurd (congrArg Sm.l h) (by decide +kernel)
theorem few13 : ¬ fewS 1 = fewS 3 := fun h => absurd (congrArg Sm.l h) (by decide +kernel)
theorem few23 : ¬ fewS 2 = fewS 3 := fun h => absurd (congrArg Sm.l h) (by decide +kernel)
theorem few_place : (isAt 5 30 6 (fewS 1) != isAt 5 30 6 (fewS 3)) = true := by decide +kernel
/-- Two and two, one of them in both. -/
theorem less_two {a b c : Sm} (hab : ¬ a = b) (hac : ¬ a = c) (hbc : ¬ b = c) : minusL (setL [a, b]) (setL [b, c]) = [a] ∧ minusL (setL [b, c]) (setL [a, b]) = [c] := by
  constructor
  · refine srt_ext (minusL_srt _ _) (s_one _) fun x => ?_
    rw [minusL_mem, setL_mem, setL_mem]
    simp only [List.mem_cons, List.not_mem_nil, or_false, not_or]
    constructor
    · rintro ⟨h1 | h1, h2, h3⟩
      · exact h1
      · exact absurd h1 h2
    · rintro rfl
      exact ⟨.inl rfl, hab, hac⟩
  · refine srt_ext (minusL_srt _ _) (s_one _) fun x => ?_
    rw [minusL_mem, setL_mem, setL_mem]
    simp only [List.mem_cons, List.not_mem_nil, or_false, not_or]
    constructor
    · rintro ⟨h1 | h1, h2, h3⟩
      · exact absurd h1 h3
      · exact h1
    · rintro rfl
      exact ⟨.inr rfl, fun h => hac h.symm, fun h => hbc h.symm⟩
theorem fewL_one (z : Int) : fewL [z] = [fewS z] := setL_self (s_one _)
theorem fewL_srt (l : List Int) : srt (fewL l) := setL_srt _
theorem same_one (x : Sm) : sameL [x] [x] = true := sameL_true (s_one _) (by simp) rfl
theorem g30 : goodN 30 = true := by decide
set_option maxRecDepth 100000 in
set_option maxHeartbeats 2000000 in
theorem awake16_ty : Fn0 Try.prog 58 (Ty.ex (.bool true)) := by
  refine ⟨fun args w => by kernel_rfl, fun w => ?_⟩
  have f12 := few16_ty [1, 2] (Ty.sl 3 2 [ivz 1, ivz 2]) (reads_sl _ _ _) (by simp)
  have f23 := few16_ty [2, 3] (Ty.sl 3 2 [ivz 2, ivz 3]) (reads_sl _ _ _) (by simp)
  have f1 := few16_ty [1] (Ty.sl 3 1 [ivz 1]) (reads_sl _ _ _) (by simp)
  have f3 := few16_ty [3] (Ty.sl 3 1 [ivz 3]) (reads_sl _ _ _) (by simp)
  rw [fewL_one] at f1 f3
  obtain ⟨hl1, hl2⟩ := less_two few12 few13 few23
  have l12 := fewL_len [1, 2]
  have l23 := fewL_len [2, 3]
  have s12 := fewL_srt [1, 2]
  have s23 := fewL_srt [2, 3]
  obtain ⟨_, e0, e1, e2⟩ := two16 (seed := 5) (n := 30) (X := fewL [1, 2]) (Y := fewL [2, 3]) g30 s23 (by simp at l23; omega) hl1 hl2 (j := 6) (by decide) few_place
  have o1 := tof_ty 5 30 (fewL [1, 2]) (by simp at l12; omega) (by omega)
  rw [newE_good g30, newS_good g30] at o1
  have hO := own_ty 5 (ofL 5 30 (fewL [1, 2])) (fewL [2, 3]) (by simp at l23; omega) (by omega)
  rw [e0, e1, e2] at hO
  have m1 := same_ty [fewS 1] [fewS 1] (by simp) (by simp)
  have m3 := same_ty [fewS 3] [fewS 3] (by simp) (by simp)
  rw [same_one] at m1 m3
  clear hl1 hl2 l12 l23 s12 s23 e0 e1 e2
  generalize ofL 5 30 (fewL [1, 2]) = A at *
  generalize fewL [1, 2] = X at *
  generalize fewL [2, 3] = Y at *
  generalize fewS 1 = x1 at *
  generalize fewS 3 = x3 at *
  refine enter_ty 38 [] Try.func58 rfl (by kernel_rfl) trivial fun a hF => ?_
  have hB := Below.refl w.heap.size w
  repeat with_reducible first | refine wp_seq ?_ | refine nThen ?_ | refine wp_ret ?_
  refine' reg_all hF ?_ mixed (by kernel_rfl) ?_
  rotate_left
  · repeat (first
        | exact Line.nil
        | ((first | refine' Line.cons rfl (.run rfl rfl ?_) ?_ | refine' Line.cons rfl (.yes rfl rfl rfl rfl ?_) ?_)
           any_goals (first | exact cMove rfl rfl | exact cAssign rfl rfl | exact cPickT rfl rfl rfl | exact cEql rfl rfl rfl | exact cExtract rfl rfl rfl)
           rotate_left))
  intro a w1 hF hb hN
  have hBs := hB.size
  replace hB := hB.trans (hb.mono hB.size)
  dsimp only [ext, Option.getD] at hF
  repeat with_reducible first | refine wp_seq ?_ | refine nThen ?_ | refine wp_ret ?_
  refine' reg_all hF ?_ mixed (by kernel_rfl) ?_
  rotate_left
  · repeat (first
        | exact Line.nil
        | ((first | refine' Line.cons rfl (.run rfl rfl ?_) ?_ | refine' Line.cons rfl (.yes rfl rfl rfl rfl ?_) ?_)
           any_goals (first | exact cMove rfl rfl | exact cAssign rfl rfl | exact cBuildV (vs := [ivz 1, ivz 2]) rfl (parts2v rfl rfl rfl) Try.underlying66 infoInt rfl (by simp [Value.cells, ivz]) (by decide) (by simp [maxLen]) | exact cBuildV (vs := [ivz 2, ivz 3]) rfl (parts2v rfl rfl rfl) Try.underlying66 infoInt rfl (by simp [Value.cells, ivz]) (by decide) (by simp [maxLen]) | exact cCallS1 rfl (.t rfl) f12 | exact cCallS1 rfl (.t rfl) f23 | exact cPickT rfl rfl rfl | exact cEql rfl rfl rfl | exact cExtract rfl rfl rfl)
           rotate_left))
  intro a w2 hF hb hN
  have hBs := hB.size
  replace hB := hB.trans (hb.mono hB.size)
  dsimp only [ext, Option.getD] at hF
  repeat with_reducible first | refine wp_seq ?_ | refine nThen ?_ | refine wp_ret ?_
  refine wp_region_lit ?_
  refine' tlOp hF rfl rfl rfl ?_ ?_
  rotate_left
  · first | exact cMove rfl rfl | exact cCallR3 rfl (.t rfl) (.t rfl) (Has.c (.t rfl) seg_sl) o1 (tabE_olds _ _ _ _)
  intro a w3_0 hF hb
  replace hB := hB.trans (hb.mono hB.size)
  refine' tlOp hF rfl rfl rfl ?_ ?_
  rotate_left
  · first | exact cMove rfl rfl | exact cCallR3 rfl (.t rfl) (.t rfl) (Has.c (.t rfl) seg_sl) o1 (tabE_olds _ _ _ _)
  intro a w3_1 hF hb
  replace hB := hB.trans (hb.mono hB.size)
  refine' tlOp hF rfl rfl rfl ?_ ?_
  rotate_left
  · first | exact cMove rfl rfl | exact cCallR3 rfl (.t rfl) (.t rfl) (Has.c (.t rfl) seg_sl) o1 (tabE_olds _ _ _ _)
  intro a w3_2 hF hb
  replace hB := hB.trans (hb.mono hB.size)
  refine' tlOp hF rfl rfl rfl ?_ ?_
  rotate_left
  · exact cExtT rfl rfl
  intro a w3_t hF hb
  replace hB := hB.trans (hb.mono hB.size)
  refine' tlOp hF rfl rfl rfl ?_ ?_
  rotate_left
  · exact cExtE rfl rfl
  intro a w3_e hF hb
  replace hB := hB.trans (hb.mono hB.size)
  refine tlNewTab hF rfl rfl rfl (by decide) rfl (run_alloc_i infoT46) rfl rfl rfl rfl tabO_tab sizeT46 fun a w3_n hF hb => ?_
  replace hB := hB.trans (hb.mono hB.size)
  refine' tlOp hF rfl rfl rfl ?_ ?_
  rotate_left
  · exact cAssign rfl rfl
  intro a w3 hF hb
  replace hB := hB.trans (hb.mono hB.size)
  try (refine wpList_nil ?_)
  repeat with_reducible first | refine wp_seq ?_ | refine nThen ?_ | refine wp_ret ?_
  refine' reg_all hF ?_ mixed (by kernel_rfl) ?_
  rotate_left
  · repeat (first
        | exact Line.nil
        | ((first | refine' Line.cons rfl (.run rfl rfl ?_) ?_ | refine' Line.cons rfl (.yes rfl rfl rfl rfl ?_) ?_)
           any_goals (first | exact cMove rfl rfl | exact cAssign rfl rfl | exact cLoadTab46 rfl (.t rfl) | exact cCallH2 rfl (.t rfl) (Has.c (.t rfl) seg_sl) hO | exact cPickT rfl rfl rfl | exact cEql rfl rfl rfl | exact cExtract rfl rfl rfl)
           rotate_left))
  intro a w4 hF hb hN
  have hBs := hB.size
  replace hB := hB.trans (hb.mono hB.size)
  dsimp only [ext, Option.getD] at hF
  repeat with_reducible first | refine wp_seq ?_ | refine nThen ?_ | refine wp_ret ?_
  refine' reg_all hF ?_ mixed (by kernel_rfl) ?_
  rotate_left
  · repeat (first
        | exact Line.nil
        | ((first | refine' Line.cons rfl (.run rfl rfl ?_) ?_ | refine' Line.cons rfl (.yes rfl rfl rfl rfl ?_) ?_)
           any_goals (first | exact cMove rfl rfl | exact cAssign rfl rfl | exact OpOk.b (c := true) (cEql rfl rfl rfl) rfl | exact cBuildV (vs := [ivz 1]) rfl (parts1v rfl rfl) Try.underlying66 infoInt rfl (by simp [Value.cells, ivz]) (by decide) (by simp [maxLen]) | exact cBuildV (vs := [ivz 3]) rfl (parts1v rfl rfl) Try.underlying66 infoInt rfl (by simp [Value.cells, ivz]) (by decide) (by simp [maxLen]) | exact cCallS1 rfl (.t rfl) f1 | exact cCallS1 rfl (.t rfl) f3 | exact cCallH2 rfl (.t rfl) (Has.c (.t rfl) seg_sl) m1 | exact cCallH2 rfl (.t rfl) (Has.c (.t rfl) seg_sl) m3 | exact cPickT rfl rfl rfl | exact cEql rfl rfl rfl | exact cExtract rfl rfl rfl)
           rotate_left))
  intro a w5 hF hb hN
  have hBs := hB.size
  replace hB := hB.trans (hb.mono hB.size)
  dsimp only [ext, Option.getD] at hF
  repeat with_reducible first | refine wp_seq ?_ | refine nThen ?_ | refine wp_ret ?_
  refine ret1 hF rfl rfl fun z hz => ?_
  exact ⟨z, rfl, hz, hB⟩
end Go.Proofs.Ytmlbkcpmgcjblaa

/- Layer 16 by types: a result's fields; PeelAll. -/
namespace Go.Proofs.Ytmlbkcpmgcjblaa
open Go.RowKit

/-- The address of a slice that is read. -/
def Ty.selS (t e : TypeId) (n : Nat) (xs : List Value) : Ty := ⟨fun w v => ∃ p, (Ty.at_ t [p]).p w v ∧ SlP w e p n xs, fun u => u == t || u == e, fun ⟨p, h1, h2⟩ k hA =>
  ⟨p, (Ty.at_ t _).st h1 k fun b hb hl => let ⟨cs, t', fr, k1, k2⟩ := hA b hb hl; ⟨cs, t', fr, k1, (Bool.or_eq_false_iff.1 k2).1⟩, (Ty.sl e n xs).st h2 k fun b hb hl => let ⟨cs, t', fr, k1, k2⟩ := hA b hb hl; ⟨cs, t', fr, k1, (Bool.or_eq_false_iff.1 k2).2⟩⟩⟩
section
variable {w0 : World} {Γ : Ctx} {o : Oper} {x : Operand} {P M : List Sm} {sd : Nat} {L : List Cl}
theorem cSelP (ho : o.op = .fieldAddr ResT x 0) (hx : Has w0 Γ x (Ty.resA P M sd L)) : OpOk Try.prog w0 Γ o (Ty.selS ResT 34 P.length (flat P)) :=
  .val fun a w hb hs => by
    obtain ⟨v, h1, p, q, s, ⟨g, off, cs, fr, rfl, h2, h3⟩, k1, k2, k3⟩ := hx.see hs (by simp [ho, Op.operands]) hb
    have hr := run_fieldAt (P := Try.prog) (i := 0) Try.underlying83 rfl sizeSL1 g off w
    refine ⟨.pointer (some ⟨g, off + 0, none⟩), ⟨p, ⟨g, off + 0, cs, fr, rfl, h2, fun j u hu => ?_⟩, k1⟩, ?_⟩
    · cases j with
      | zero => exact h3 0 u hu
      | succ j => simp at hu
    · unfold execOp
      simp [ho, h1, hr]
theorem cSelM (ho : o.op = .fieldAddr ResT x 1) (hx : Has w0 Γ x (Ty.resA P M sd L)) : OpOk Try.prog w0 Γ o (Ty.selS ResT 34 M.length (flat M)) :=
  .val fun a w hb hs => by
    obtain ⟨v, h1, p, q, s, ⟨g, off, cs, fr, rfl, h2, h3⟩, k1, k2, k3⟩ := hx.see hs (by simp [ho, Op.operands]) hb
    have hr := run_fieldAt (P := Try.prog) (i := 1) Try.underlying83 rfl sizeSL1 g off w
    refine ⟨.pointer (some ⟨g, off + 1, none⟩), ⟨q, ⟨g, off + 1, cs, fr, rfl, h2, fun j u hu => ?_⟩, k2⟩, ?_⟩
    · cases j with
      | zero => exact h3 1 u hu
      | succ j => simp at hu
    · unfold execOp
      simp [ho, h1, hr]
theorem cSelL (ho : o.op = .fieldAddr ResT x 2) (hx : Has w0 Γ x (Ty.resA P M sd L)) : OpOk Try.prog w0 Γ o (Ty.tabP ResT 87 sd L) :=
  .val fun a w hb hs => by
    obtain ⟨v, h1, p, q, s, ⟨g, off, cs, fr, rfl, h2, h3⟩, k1, k2, k3⟩ := hx.see hs (by simp [ho, Op.operands]) hb
    have hr := run_fieldAt (P := Try.prog) (i := 2) Try.underlying83 rfl sizeT46 g off w
    refine ⟨.pointer (some ⟨g, off + 2, none⟩), ⟨s, ⟨g, off + 2, cs, fr, rfl, h2, fun j u hu => ?_⟩, k3⟩, ?_⟩
    · have h := h3 (2 + j) u
      rw [← Nat.add_assoc] at h
      match j, hu with
      | 0, hu => exact h hu
      | 1, hu => exact h hu
      | j + 2, hu => simp at hu
    · unfold execOp
      simp [ho, h1, hr]
theorem cLoadSel {t e : TypeId} {n : Nat} {xs : List Value} (ho : o.op = .load 25 x) (hx : OpT Γ x (Ty.selS t e n xs)) : OpOk Try.prog w0 Γ o (Ty.sl e n xs) :=
  .val fun a w hb hs => by
    obtain ⟨v, h1, p, hat, hsl⟩ := hs x _ (by simp [ho, Op.operands]) hx
    obtain ⟨ad, rfl, h3⟩ := pts_at _ _ w v hat
    refine ⟨p, hsl, ?_⟩
    have h4 := run_loadVar_one (P := Try.prog) h3 Try.underlying25 rfl
    unfold execOp
    simp [ho, h1, Instr.loadAt, Instr.sureAddr, h4]
theorem cLoadTabR (ho : o.op = .load 41 x) (hx : OpT Γ x (Ty.tabP ResT 87 sd L)) : OpOk Try.prog w0 Γ o (Ty.tab 87 sd L) :=
  .val fun a w hb hs => by
    obtain ⟨v, h1, s, h2, h5⟩ := hs x _ (by simp [ho, Op.operands]) hx
    obtain ⟨ad, rfl, h3⟩ := pts_at _ _ w v h2
    refine ⟨.agg #[.int .u64 (sd : Int), s], ⟨s, rfl, h5⟩, ?_⟩
    have h4 := run_loadVar_rd (P := Try.prog) h3 Try.underlying41 rfl (by rw [sizeT46]; rfl)
    unfold execOp
    simp [ho, h1, Instr.loadAt, Instr.sureAddr, h4]
end
theorem ok_left {seed : Nat} {L : List Cl} (h : peelOk seed L = true) : allZ (resL seed L) = true ∧ (resL seed L).length = L.length ∧ resS seed L = seed ∧ goodN (L.length : Int) = true := by
  have hz := ok_zero h
  unfold peelOk at h
  simp only [Bool.and_eq_true] at h
  have e : resL seed L = (peelS seed L).L := by unfold resL; rw [h.1]; rfl
  rw [e]
  exact ⟨hz, Pst.run_len _ _ _, by unfold resS; rw [h.1]; rfl, h.1⟩
set_option maxRecDepth 100000 in
set_option maxHeartbeats 4000000 in
theorem lawPeelAll_any (seed : Nat) (n : Int) (la lb : List Int) {W : World} {v2 v3 : Value} (hsd : seed < 18446744073709551616) (h2 : (Ty.rd la.length (la.map ivz)).p W v2) (h3 : (Ty.rd lb.length (lb.map ivz)).p W v3) : Calls Try.prog 15 #[.int .u64 (seed : Int), .int .i64 n, v2, v3] W fun e w' => e = .returned (.bool true) ∧ Below W.heap.size W w' := by
  let TA := Ty.rd la.length (la.map ivz)
  let TB := Ty.rd lb.length (lb.map ivz)
  refine enter_ty 131 [Ty.ex (.int .u64 (seed : Int)), Ty.ex (.int .i64 n), Ty.ex v2, Ty.ex v3] Try.func15 rfl (by kernel_rfl) ⟨rfl, rfl, rfl, rfl, trivial⟩ fun a hF => ?_
  have hB := Below.refl W.heap.size W
  repeat with_reducible first | refine wp_seq ?_ | refine nThen ?_ | refine wp_skip ?_ | refine wp_ret ?_ | refine rThen ?_
  refine' reg_all hF ?_ mixed (by kernel_rfl) ?_
  rotate_left
  · repeat (first
        | exact Line.nil
        | (refine' Line.cons rfl (.no rfl rfl rfl rfl rfl rfl) ?_; rotate_left)
        | ((first | refine' Line.cons rfl (.run rfl rfl ?_) ?_ | refine' Line.cons rfl (.yes rfl rfl rfl rfl ?_) ?_)
           any_goals (first | exact cMove rfl rfl | exact cAssign rfl rfl | exact cNot rfl rfl | exact cPickT rfl rfl rfl | exact cPickF rfl rfl rfl | exact cGtr rfl rfl rfl | exact cEql rfl rfl rfl | exact cNeq rfl rfl rfl | exact cExtract rfl rfl rfl)
           rotate_left))
  intro a w1 hF hb hN
  have hBs := hB.size
  replace hB := hB.trans (hb.mono hB.size)
  dsimp only [ext, Option.getD] at hF
  repeat with_reducible first | refine wp_seq ?_ | refine nThen ?_ | refine wp_skip ?_ | refine wp_ret ?_ | refine rThen ?_
  refine' reg_all hF ?_ mixed (by kernel_rfl) ?_
  rotate_left
  · repeat (first
        | exact Line.nil
        | (refine' Line.cons rfl (.no rfl rfl rfl rfl rfl rfl) ?_; rotate_left)
        | ((first | refine' Line.cons rfl (.run rfl rfl ?_) ?_ | refine' Line.cons rfl (.yes rfl rfl rfl rfl ?_) ?_)
           any_goals (first | exact cMove rfl rfl | exact cAssign rfl rfl | exact cNot rfl rfl | exact cCall0 rfl awake16_ty | exact cPickT rfl rfl rfl | exact cPickF rfl rfl rfl | exact cGtr rfl rfl rfl | exact cEql rfl rfl rfl | exact cNeq rfl rfl rfl | exact cExtract rfl rfl rfl)
           rotate_left))
  intro a w2 hF hb hN
  have hBs := hB.size
  replace hB := hB.trans (hb.mono hB.size)
  dsimp only [ext, Option.getD] at hF
  repeat with_reducible first | refine wp_seq ?_ | refine nThen ?_ | refine wp_skip ?_ | refine wp_ret ?_ | refine rThen ?_
  refine cond_f hF rfl ?_
  repeat with_reducible first | refine wp_seq ?_ | refine nThen ?_ | refine wp_skip ?_ | refine wp_ret ?_ | refine rThen ?_
  have k2 := TA.below h2 hB
  have k3 := TB.below h3 hB
  by_cases c1 : (25 : Int) < la.length
  · refine' reg_all hF ?_ mixed (by kernel_rfl) ?_
    rotate_left
    · repeat (first
          | exact Line.nil
          | (refine' Line.cons rfl (.no rfl rfl rfl rfl rfl rfl) ?_; rotate_left)
          | ((first | refine' Line.cons rfl (.run rfl rfl ?_) ?_ | refine' Line.cons rfl (.yes rfl rfl rfl rfl ?_) ?_)
             any_goals (first | exact cMove rfl rfl | exact cAssign rfl rfl | exact cNot rfl rfl | exact cLenH rfl (.l rfl k2) (Ty.rd_isSl _ _) Try.underlying66 | exact cLenH rfl (.l rfl k3) (Ty.rd_isSl _ _) Try.underlying66 | exact OpOk.b (c := true) (cGtr rfl rfl rfl) (decide_eq_true (by omega)) | exact OpOk.b (c := false) (cGtr rfl rfl rfl) (decide_eq_false (by omega)) | exact cPickT rfl rfl rfl | exact cPickF rfl rfl rfl | exact cGtr rfl rfl rfl | exact cEql rfl rfl rfl | exact cNeq rfl rfl rfl | exact cExtract rfl rfl rfl)
             rotate_left))
    intro a w3 hF hb hN
    have hBs := hB.size
    replace hB := hB.trans (hb.mono hB.size)
    dsimp only [ext, Option.getD] at hF
    repeat with_reducible first | refine wp_seq ?_ | refine nThen ?_ | refine wp_skip ?_ | refine wp_ret ?_ | refine rThen ?_
    refine cond_t hF rfl ?_
    repeat with_reducible first | refine wp_seq ?_ | refine nThen ?_ | refine wp_skip ?_ | refine wp_ret ?_ | refine rThen ?_
    refine' reg_all hF ?_ mixed (by kernel_rfl) ?_
    rotate_left
    · repeat (first
          | exact Line.nil
          | (refine' Line.cons rfl (.no rfl rfl rfl rfl rfl rfl) ?_; rotate_left)
          | ((first | refine' Line.cons rfl (.run rfl rfl ?_) ?_ | refine' Line.cons rfl (.yes rfl rfl rfl rfl ?_) ?_)
             any_goals (first | exact cMove rfl rfl | exact cAssign rfl rfl | exact cNot rfl rfl | exact cPickT rfl rfl rfl | exact cPickF rfl rfl rfl | exact cGtr rfl rfl rfl | exact cEql rfl rfl rfl | exact cNeq rfl rfl rfl | exact cExtract rfl rfl rfl)
             rotate_left))
    intro a w4 hF hb hN
    have hBs := hB.size
    replace hB := hB.trans (hb.mono hB.size)
    dsimp only [ext, Option.getD] at hF
    repeat with_reducible first | refine wp_seq ?_ | refine nThen ?_ | refine wp_skip ?_ | refine wp_ret ?_ | refine rThen ?_
    refine ret1 hF rfl rfl fun z hz => ?_
    exact ⟨by rw [show z = .bool true from hz], hB⟩
  by_cases c2 : (25 : Int) < lb.length
  · refine' reg_all hF ?_ mixed (by kernel_rfl) ?_
    rotate_left
    · repeat (first
          | exact Line.nil
          | (refine' Line.cons rfl (.no rfl rfl rfl rfl rfl rfl) ?_; rotate_left)
          | ((first | refine' Line.cons rfl (.run rfl rfl ?_) ?_ | refine' Line.cons rfl (.yes rfl rfl rfl rfl ?_) ?_)
             any_goals (first | exact cMove rfl rfl | exact cAssign rfl rfl | exact cNot rfl rfl | exact cLenH rfl (.l rfl k2) (Ty.rd_isSl _ _) Try.underlying66 | exact cLenH rfl (.l rfl k3) (Ty.rd_isSl _ _) Try.underlying66 | exact OpOk.b (c := true) (cGtr rfl rfl rfl) (decide_eq_true (by omega)) | exact OpOk.b (c := false) (cGtr rfl rfl rfl) (decide_eq_false (by omega)) | exact cPickT rfl rfl rfl | exact cPickF rfl rfl rfl | exact cGtr rfl rfl rfl | exact cEql rfl rfl rfl | exact cNeq rfl rfl rfl | exact cExtract rfl rfl rfl)
             rotate_left))
    intro a w3 hF hb hN
    have hBs := hB.size
    replace hB := hB.trans (hb.mono hB.size)
    dsimp only [ext, Option.getD] at hF
    repeat with_reducible first | refine wp_seq ?_ | refine nThen ?_ | refine wp_skip ?_ | refine wp_ret ?_ | refine rThen ?_
    refine cond_t hF rfl ?_
    repeat with_reducible first | refine wp_seq ?_ | refine nThen ?_ | refine wp_skip ?_ | refine wp_ret ?_ | refine rThen ?_
    refine' reg_all hF ?_ mixed (by kernel_rfl) ?_
    rotate_left
    · repeat (first
          | exact Line.nil
          | (refine' Line.cons rfl (.no rfl rfl rfl rfl rfl rfl) ?_; rotate_left)
          | ((first | refine' Line.cons rfl (.run rfl rfl ?_) ?_ | refine' Line.cons rfl (.yes rfl rfl rfl rfl ?_) ?_)
             any_goals (first | exact cMove rfl rfl | exact cAssign rfl rfl | exact cNot rfl rfl | exact cPickT rfl rfl rfl | exact cPickF rfl rfl rfl | exact cGtr rfl rfl rfl | exact cEql rfl rfl rfl | exact cNeq rfl rfl rfl | exact cExtract rfl rfl rfl)
             rotate_left))
    intro a w4 hF hb hN
    have hBs := hB.size
    replace hB := hB.trans (hb.mono hB.size)
    dsimp only [ext, Option.getD] at hF
    repeat with_reducible first | refine wp_seq ?_ | refine nThen ?_ | refine wp_skip ?_ | refine wp_ret ?_ | refine rThen ?_
    refine ret1 hF rfl rfl fun z hz => ?_
    exact ⟨by rw [show z = .bool true from hz], hB⟩
  by_cases c3 : 90 < n
  · refine' reg_all hF ?_ mixed (by kernel_rfl) ?_
    rotate_left
    · repeat (first
          | exact Line.nil
          | (refine' Line.cons rfl (.no rfl rfl rfl rfl rfl rfl) ?_; rotate_left)
          | ((first | refine' Line.cons rfl (.run rfl rfl ?_) ?_ | refine' Line.cons rfl (.yes rfl rfl rfl rfl ?_) ?_)
             any_goals (first | exact cMove rfl rfl | exact cAssign rfl rfl | exact cNot rfl rfl | exact cLenH rfl (.l rfl k2) (Ty.rd_isSl _ _) Try.underlying66 | exact cLenH rfl (.l rfl k3) (Ty.rd_isSl _ _) Try.underlying66 | exact OpOk.b (c := true) (cGtr rfl rfl rfl) (decide_eq_true (by omega)) | exact OpOk.b (c := false) (cGtr rfl rfl rfl) (decide_eq_false (by omega)) | exact cPickT rfl rfl rfl | exact cPickF rfl rfl rfl | exact cGtr rfl rfl rfl | exact cEql rfl rfl rfl | exact cNeq rfl rfl rfl | exact cExtract rfl rfl rfl)
             rotate_left))
    intro a w3 hF hb hN
    have hBs := hB.size
    replace hB := hB.trans (hb.mono hB.size)
    dsimp only [ext, Option.getD] at hF
    repeat with_reducible first | refine wp_seq ?_ | refine nThen ?_ | refine wp_skip ?_ | refine wp_ret ?_ | refine rThen ?_
    refine cond_t hF rfl ?_
    repeat with_reducible first | refine wp_seq ?_ | refine nThen ?_ | refine wp_skip ?_ | refine wp_ret ?_ | refine rThen ?_
    refine' reg_all hF ?_ mixed (by kernel_rfl) ?_
    rotate_left
    · repeat (first
          | exact Line.nil
          | (refine' Line.cons rfl (.no rfl rfl rfl rfl rfl rfl) ?_; rotate_left)
          | ((first | refine' Line.cons rfl (.run rfl rfl ?_) ?_ | refine' Line.cons rfl (.yes rfl rfl rfl rfl ?_) ?_)
             any_goals (first | exact cMove rfl rfl | exact cAssign rfl rfl | exact cNot rfl rfl | exact cPickT rfl rfl rfl | exact cPickF rfl rfl rfl | exact cGtr rfl rfl rfl | exact cEql rfl rfl rfl | exact cNeq rfl rfl rfl | exact cExtract rfl rfl rfl)
             rotate_left))
    intro a w4 hF hb hN
    have hBs := hB.size
    replace hB := hB.trans (hb.mono hB.size)
    dsimp only [ext, Option.getD] at hF
    repeat with_reducible first | refine wp_seq ?_ | refine nThen ?_ | refine wp_skip ?_ | refine wp_ret ?_ | refine rThen ?_
    refine ret1 hF rfl rfl fun z hz => ?_
    exact ⟨by rw [show z = .bool true from hz], hB⟩
  have f1 := few16_ty la TA (reads_rd _ _) (by omega)
  have f2 := few16_ty lb TB (reads_rd _ _) (by omega)
  have hXl := fewL_len la
  have hYl := fewL_len lb
  generalize fewL la = X at *
  generalize fewL lb = Y at *
  have o1 := tof_ty seed n X (by omega) hsd
  have o2 := tof_ty seed n Y (by omega) hsd
  refine' reg_all hF ?_ mixed (by kernel_rfl) ?_
  rotate_left
  · repeat (first
        | exact Line.nil
        | (refine' Line.cons rfl (.no rfl rfl rfl rfl rfl rfl) ?_; rotate_left)
        | ((first | refine' Line.cons rfl (.run rfl rfl ?_) ?_ | refine' Line.cons rfl (.yes rfl rfl rfl rfl ?_) ?_)
           any_goals (first | exact cMove rfl rfl | exact cAssign rfl rfl | exact cNot rfl rfl | exact cLenH rfl (.l rfl k2) (Ty.rd_isSl _ _) Try.underlying66 | exact cLenH rfl (.l rfl k3) (Ty.rd_isSl _ _) Try.underlying66 | exact OpOk.b (c := true) (cGtr rfl rfl rfl) (decide_eq_true (by omega)) | exact OpOk.b (c := false) (cGtr rfl rfl rfl) (decide_eq_false (by omega)) | exact cPickT rfl rfl rfl | exact cPickF rfl rfl rfl | exact cGtr rfl rfl rfl | exact cEql rfl rfl rfl | exact cNeq rfl rfl rfl | exact cExtract rfl rfl rfl)
           rotate_left))
  intro a w3 hF hb hN
  have hBs := hB.size
  replace hB := hB.trans (hb.mono hB.size)
  dsimp only [ext, Option.getD] at hF
  repeat with_reducible first | refine wp_seq ?_ | refine nThen ?_ | refine wp_skip ?_ | refine wp_ret ?_ | refine rThen ?_
  refine cond_f hF rfl ?_
  repeat with_reducible first | refine wp_seq ?_ | refine nThen ?_ | refine wp_skip ?_ | refine wp_ret ?_ | refine rThen ?_
  clear k2 k3
  by_cases hg : goodN n = true
  rotate_left
  · have hg : goodN n = false := by simpa using hg
    rw [newE_bad hg] at o1 o2
    refine wp_region_lit ?_
    refine' tlOp hF rfl rfl rfl ?_ ?_
    rotate_left
    · first | exact cMove rfl rfl | exact cCallS1 rfl (.l rfl (TA.below h2 hB)) f1 | exact cCallR3 rfl (.t rfl) (.t rfl) (Has.c (.t rfl) seg_sl) o1 (tabE_olds _ _ _ _)
    intro a w5_0 hF hb
    replace hB := hB.trans (hb.mono hB.size)
    refine' tlOp hF rfl rfl rfl ?_ ?_
    rotate_left
    · first | exact cMove rfl rfl | exact cCallS1 rfl (.l rfl (TA.below h2 hB)) f1 | exact cCallR3 rfl (.t rfl) (.t rfl) (Has.c (.t rfl) seg_sl) o1 (tabE_olds _ _ _ _)
    intro a w5_1 hF hb
    replace hB := hB.trans (hb.mono hB.size)
    refine' tlOp hF rfl rfl rfl ?_ ?_
    rotate_left
    · first | exact cMove rfl rfl | exact cCallS1 rfl (.l rfl (TA.below h2 hB)) f1 | exact cCallR3 rfl (.t rfl) (.t rfl) (Has.c (.t rfl) seg_sl) o1 (tabE_olds _ _ _ _)
    intro a w5_2 hF hb
    replace hB := hB.trans (hb.mono hB.size)
    refine' tlOp hF rfl rfl rfl ?_ ?_
    rotate_left
    · first | exact cMove rfl rfl | exact cCallS1 rfl (.l rfl (TA.below h2 hB)) f1 | exact cCallR3 rfl (.t rfl) (.t rfl) (Has.c (.t rfl) seg_sl) o1 (tabE_olds _ _ _ _)
    intro a w5_3 hF hb
    replace hB := hB.trans (hb.mono hB.size)
    refine' tlOp hF rfl rfl rfl ?_ ?_
    rotate_left
    · first | exact cMove rfl rfl | exact cCallS1 rfl (.l rfl (TA.below h2 hB)) f1 | exact cCallR3 rfl (.t rfl) (.t rfl) (Has.c (.t rfl) seg_sl) o1 (tabE_olds _ _ _ _)
    intro a w5_4 hF hb
    replace hB := hB.trans (hb.mono hB.size)
    refine' tlOp hF rfl rfl rfl ?_ ?_
    rotate_left
    · first | exact cMove rfl rfl | exact cCallS1 rfl (.l rfl (TA.below h2 hB)) f1 | exact cCallR3 rfl (.t rfl) (.t rfl) (Has.c (.t rfl) seg_sl) o1 (tabE_olds _ _ _ _)
    intro a w5_5 hF hb
    replace hB := hB.trans (hb.mono hB.size)
    refine' tlOp hF rfl rfl rfl ?_ ?_
    rotate_left
    · exact cExtT rfl rfl
    intro a w5_t hF hb
    replace hB := hB.trans (hb.mono hB.size)
    refine' tlOp hF rfl rfl rfl ?_ ?_
    rotate_left
    · exact cExtE rfl rfl
    intro a w5_e hF hb
    replace hB := hB.trans (hb.mono hB.size)
    refine tlNewTab hF rfl rfl rfl (by decide) rfl (run_alloc_i infoT46) rfl rfl rfl rfl tabO_tab sizeT46 fun a w5_n hF hb => ?_
    replace hB := hB.trans (hb.mono hB.size)
    refine' tlOp hF rfl rfl rfl ?_ ?_
    rotate_left
    · exact cAssign rfl rfl
    intro a w5 hF hb
    replace hB := hB.trans (hb.mono hB.size)
    try (refine wpList_nil ?_)
    repeat with_reducible first | refine wp_seq ?_ | refine nThen ?_ | refine wp_skip ?_ | refine wp_ret ?_ | refine rThen ?_
    refine wp_region_lit ?_
    refine' tlOp hF rfl rfl rfl ?_ ?_
    rotate_left
    · first | exact cMove rfl rfl | exact cCallS1 rfl (.l rfl (TB.below h3 hB)) f2 | exact cCallR3 rfl (.t rfl) (.t rfl) (Has.c (.t rfl) seg_sl) o2 (tabE_olds _ _ _ _)
    intro a w6_0 hF hb
    replace hB := hB.trans (hb.mono hB.size)
    refine' tlOp hF rfl rfl rfl ?_ ?_
    rotate_left
    · first | exact cMove rfl rfl | exact cCallS1 rfl (.l rfl (TB.below h3 hB)) f2 | exact cCallR3 rfl (.t rfl) (.t rfl) (Has.c (.t rfl) seg_sl) o2 (tabE_olds _ _ _ _)
    intro a w6_1 hF hb
    replace hB := hB.trans (hb.mono hB.size)
    refine' tlOp hF rfl rfl rfl ?_ ?_
    rotate_left
    · first | exact cMove rfl rfl | exact cCallS1 rfl (.l rfl (TB.below h3 hB)) f2 | exact cCallR3 rfl (.t rfl) (.t rfl) (Has.c (.t rfl) seg_sl) o2 (tabE_olds _ _ _ _)
    intro a w6_2 hF hb
    replace hB := hB.trans (hb.mono hB.size)
    refine' tlOp hF rfl rfl rfl ?_ ?_
    rotate_left
    · first | exact cMove rfl rfl | exact cCallS1 rfl (.l rfl (TB.below h3 hB)) f2 | exact cCallR3 rfl (.t rfl) (.t rfl) (Has.c (.t rfl) seg_sl) o2 (tabE_olds _ _ _ _)
    intro a w6_3 hF hb
    replace hB := hB.trans (hb.mono hB.size)
    refine' tlOp hF rfl rfl rfl ?_ ?_
    rotate_left
    · first | exact cMove rfl rfl | exact cCallS1 rfl (.l rfl (TB.below h3 hB)) f2 | exact cCallR3 rfl (.t rfl) (.t rfl) (Has.c (.t rfl) seg_sl) o2 (tabE_olds _ _ _ _)
    intro a w6_4 hF hb
    replace hB := hB.trans (hb.mono hB.size)
    refine' tlOp hF rfl rfl rfl ?_ ?_
    rotate_left
    · first | exact cMove rfl rfl | exact cCallS1 rfl (.l rfl (TB.below h3 hB)) f2 | exact cCallR3 rfl (.t rfl) (.t rfl) (Has.c (.t rfl) seg_sl) o2 (tabE_olds _ _ _ _)
    intro a w6_5 hF hb
    replace hB := hB.trans (hb.mono hB.size)
    refine' tlOp hF rfl rfl rfl ?_ ?_
    rotate_left
    · exact cExtT rfl rfl
    intro a w6_t hF hb
    replace hB := hB.trans (hb.mono hB.size)
    refine' tlOp hF rfl rfl rfl ?_ ?_
    rotate_left
    · exact cExtE rfl rfl
    intro a w6_e hF hb
    replace hB := hB.trans (hb.mono hB.size)
    refine tlNewTab hF rfl rfl rfl (by decide) rfl (run_alloc_i infoT46) rfl rfl rfl rfl tabO_tab sizeT46 fun a w6_n hF hb => ?_
    replace hB := hB.trans (hb.mono hB.size)
    refine' tlOp hF rfl rfl rfl ?_ ?_
    rotate_left
    · exact cAssign rfl rfl
    intro a w6 hF hb
    replace hB := hB.trans (hb.mono hB.size)
    try (refine wpList_nil ?_)
    repeat with_reducible first | refine wp_seq ?_ | refine nThen ?_ | refine wp_skip ?_ | refine wp_ret ?_ | refine rThen ?_
    refine' reg_all hF ?_ mixed (by kernel_rfl) ?_
    rotate_left
    · repeat (first
          | exact Line.nil
          | (refine' Line.cons rfl (.no rfl rfl rfl rfl rfl rfl) ?_; rotate_left)
          | ((first | refine' Line.cons rfl (.run rfl rfl ?_) ?_ | refine' Line.cons rfl (.yes rfl rfl rfl rfl ?_) ?_)
             any_goals (first | exact cMove rfl rfl | exact cAssign rfl rfl | exact cNot rfl rfl | exact OpOk.b (c := true) (cNeq rfl rfl rfl) rfl | exact cPickT rfl rfl rfl | exact cPickF rfl rfl rfl | exact cGtr rfl rfl rfl | exact cEql rfl rfl rfl | exact cNeq rfl rfl rfl | exact cExtract rfl rfl rfl)
             rotate_left))
    intro a w7 hF hb hN
    have hBs := hB.size
    replace hB := hB.trans (hb.mono hB.size)
    dsimp only [ext, Option.getD] at hF
    repeat with_reducible first | refine wp_seq ?_ | refine nThen ?_ | refine wp_skip ?_ | refine wp_ret ?_ | refine rThen ?_
    refine cond_t hF rfl ?_
    repeat with_reducible first | refine wp_seq ?_ | refine nThen ?_ | refine wp_skip ?_ | refine wp_ret ?_ | refine rThen ?_
    refine' reg_all hF ?_ mixed (by kernel_rfl) ?_
    rotate_left
    · repeat (first
          | exact Line.nil
          | (refine' Line.cons rfl (.no rfl rfl rfl rfl rfl rfl) ?_; rotate_left)
          | ((first | refine' Line.cons rfl (.run rfl rfl ?_) ?_ | refine' Line.cons rfl (.yes rfl rfl rfl rfl ?_) ?_)
             any_goals (first | exact cMove rfl rfl | exact cAssign rfl rfl | exact cNot rfl rfl | exact cPickT rfl rfl rfl | exact cPickF rfl rfl rfl | exact cGtr rfl rfl rfl | exact cEql rfl rfl rfl | exact cNeq rfl rfl rfl | exact cExtract rfl rfl rfl)
             rotate_left))
    intro a w8 hF hb hN
    have hBs := hB.size
    replace hB := hB.trans (hb.mono hB.size)
    dsimp only [ext, Option.getD] at hF
    repeat with_reducible first | refine wp_seq ?_ | refine nThen ?_ | refine wp_skip ?_ | refine wp_ret ?_ | refine rThen ?_
    refine ret1 hF rfl rfl fun z hz => ?_
    exact ⟨by rw [show z = .bool true from hz], hB⟩
  rw [newE_good hg, newS_good hg] at o1 o2
  have hlX : (ofL seed n X).length = n.toNat := ofL_len hg
  have hlY : (ofL seed n Y).length = n.toNat := ofL_len hg
  have hgX := ofL_good (seed := seed) (D := X) hg
  have m1 := tminus_ty seed seed (ofL seed n X) (ofL seed n Y)
  have k1 := minOk_good (s := seed) hgX (hlX.trans hlY.symm)
  rw [minL_good k1, minS_good k1, minE_good k1] at m1
  have hDn := tminus_norm (hlX.trans hlY.symm)
  have hDl := (tminus_len (hlX.trans hlY.symm)).trans hlX
  clear k1 hlX hlY hgX
  generalize ofL seed n X = A at *
  generalize ofL seed n Y = B at *
  generalize tminus A B = D at *
  have hAll := pall_ty seed D hsd
  have hDg : goodN (D.length : Int) = true := by
    obtain ⟨N, hN, _⟩ := goodN_rng hg
    rw [hDl, show ((n.toNat : Nat) : Int) = n by omega]; exact hg
  by_cases h0 : resN seed D = 0
  rotate_left
  · have h10 := (resN_01 hDg).resolve_left h0
    rw [h10] at hAll
    clear h0 h10
    generalize resP seed D = P at *
    generalize resM seed D = K at *
    generalize resS seed D = sd at *
    generalize resL seed D = RL at *
    refine wp_region_lit ?_
    refine' tlOp hF rfl rfl rfl ?_ ?_
    rotate_left
    · first | exact cMove rfl rfl | exact cCallS1 rfl (.l rfl (TA.below h2 hB)) f1 | exact cCallR3 rfl (.t rfl) (.t rfl) (Has.c (.t rfl) seg_sl) o1 (tabE_olds _ _ _ _)
    intro a w5_0 hF hb
    replace hB := hB.trans (hb.mono hB.size)
    refine' tlOp hF rfl rfl rfl ?_ ?_
    rotate_left
    · first | exact cMove rfl rfl | exact cCallS1 rfl (.l rfl (TA.below h2 hB)) f1 | exact cCallR3 rfl (.t rfl) (.t rfl) (Has.c (.t rfl) seg_sl) o1 (tabE_olds _ _ _ _)
    intro a w5_1 hF hb
    replace hB := hB.trans (hb.mono hB.size)
    refine' tlOp hF rfl rfl rfl ?_ ?_
    rotate_left
    · first | exact cMove rfl rfl | exact cCallS1 rfl (.l rfl (TA.below h2 hB)) f1 | exact cCallR3 rfl (.t rfl) (.t rfl) (Has.c (.t rfl) seg_sl) o1 (tabE_olds _ _ _ _)
    intro a w5_2 hF hb
    replace hB := hB.trans (hb.mono hB.size)
    refine' tlOp hF rfl rfl rfl ?_ ?_
    rotate_left
    · first | exact cMove rfl rfl | exact cCallS1 rfl (.l rfl (TA.below h2 hB)) f1 | exact cCallR3 rfl (.t rfl) (.t rfl) (Has.c (.t rfl) seg_sl) o1 (tabE_olds _ _ _ _)
    intro a w5_3 hF hb
    replace hB := hB.trans (hb.mono hB.size)
    refine' tlOp hF rfl rfl rfl ?_ ?_
    rotate_left
    · first | exact cMove rfl rfl | exact cCallS1 rfl (.l rfl (TA.below h2 hB)) f1 | exact cCallR3 rfl (.t rfl) (.t rfl) (Has.c (.t rfl) seg_sl) o1 (tabE_olds _ _ _ _)
    intro a w5_4 hF hb
    replace hB := hB.trans (hb.mono hB.size)
    refine' tlOp hF rfl rfl rfl ?_ ?_
    rotate_left
    · first | exact cMove rfl rfl | exact cCallS1 rfl (.l rfl (TA.below h2 hB)) f1 | exact cCallR3 rfl (.t rfl) (.t rfl) (Has.c (.t rfl) seg_sl) o1 (tabE_olds _ _ _ _)
    intro a w5_5 hF hb
    replace hB := hB.trans (hb.mono hB.size)
    refine' tlOp hF rfl rfl rfl ?_ ?_
    rotate_left
    · exact cExtT rfl rfl
    intro a w5_t hF hb
    replace hB := hB.trans (hb.mono hB.size)
    refine' tlOp hF rfl rfl rfl ?_ ?_
    rotate_left
    · exact cExtE rfl rfl
    intro a w5_e hF hb
    replace hB := hB.trans (hb.mono hB.size)
    refine tlNewTab hF rfl rfl rfl (by decide) rfl (run_alloc_i infoT46) rfl rfl rfl rfl tabO_tab sizeT46 fun a w5_n hF hb => ?_
    replace hB := hB.trans (hb.mono hB.size)
    refine' tlOp hF rfl rfl rfl ?_ ?_
    rotate_left
    · exact cAssign rfl rfl
    intro a w5 hF hb
    replace hB := hB.trans (hb.mono hB.size)
    try (refine wpList_nil ?_)
    repeat with_reducible first | refine wp_seq ?_ | refine nThen ?_ | refine wp_skip ?_ | refine wp_ret ?_ | refine rThen ?_
    refine wp_region_lit ?_
    refine' tlOp hF rfl rfl rfl ?_ ?_
    rotate_left
    · first | exact cMove rfl rfl | exact cCallS1 rfl (.l rfl (TB.below h3 hB)) f2 | exact cCallR3 rfl (.t rfl) (.t rfl) (Has.c (.t rfl) seg_sl) o2 (tabE_olds _ _ _ _)
    intro a w6_0 hF hb
    replace hB := hB.trans (hb.mono hB.size)
    refine' tlOp hF rfl rfl rfl ?_ ?_
    rotate_left
    · first | exact cMove rfl rfl | exact cCallS1 rfl (.l rfl (TB.below h3 hB)) f2 | exact cCallR3 rfl (.t rfl) (.t rfl) (Has.c (.t rfl) seg_sl) o2 (tabE_olds _ _ _ _)
    intro a w6_1 hF hb
    replace hB := hB.trans (hb.mono hB.size)
    refine' tlOp hF rfl rfl rfl ?_ ?_
    rotate_left
    · first | exact cMove rfl rfl | exact cCallS1 rfl (.l rfl (TB.below h3 hB)) f2 | exact cCallR3 rfl (.t rfl) (.t rfl) (Has.c (.t rfl) seg_sl) o2 (tabE_olds _ _ _ _)
    intro a w6_2 hF hb
    replace hB := hB.trans (hb.mono hB.size)
    refine' tlOp hF rfl rfl rfl ?_ ?_
    rotate_left
    · first | exact cMove rfl rfl | exact cCallS1 rfl (.l rfl (TB.below h3 hB)) f2 | exact cCallR3 rfl (.t rfl) (.t rfl) (Has.c (.t rfl) seg_sl) o2 (tabE_olds _ _ _ _)
    intro a w6_3 hF hb
    replace hB := hB.trans (hb.mono hB.size)
    refine' tlOp hF rfl rfl rfl ?_ ?_
    rotate_left
    · first | exact cMove rfl rfl | exact cCallS1 rfl (.l rfl (TB.below h3 hB)) f2 | exact cCallR3 rfl (.t rfl) (.t rfl) (Has.c (.t rfl) seg_sl) o2 (tabE_olds _ _ _ _)
    intro a w6_4 hF hb
    replace hB := hB.trans (hb.mono hB.size)
    refine' tlOp hF rfl rfl rfl ?_ ?_
    rotate_left
    · first | exact cMove rfl rfl | exact cCallS1 rfl (.l rfl (TB.below h3 hB)) f2 | exact cCallR3 rfl (.t rfl) (.t rfl) (Has.c (.t rfl) seg_sl) o2 (tabE_olds _ _ _ _)
    intro a w6_5 hF hb
    replace hB := hB.trans (hb.mono hB.size)
    refine' tlOp hF rfl rfl rfl ?_ ?_
    rotate_left
    · exact cExtT rfl rfl
    intro a w6_t hF hb
    replace hB := hB.trans (hb.mono hB.size)
    refine' tlOp hF rfl rfl rfl ?_ ?_
    rotate_left
    · exact cExtE rfl rfl
    intro a w6_e hF hb
    replace hB := hB.trans (hb.mono hB.size)
    refine tlNewTab hF rfl rfl rfl (by decide) rfl (run_alloc_i infoT46) rfl rfl rfl rfl tabO_tab sizeT46 fun a w6_n hF hb => ?_
    replace hB := hB.trans (hb.mono hB.size)
    refine' tlOp hF rfl rfl rfl ?_ ?_
    rotate_left
    · exact cAssign rfl rfl
    intro a w6 hF hb
    replace hB := hB.trans (hb.mono hB.size)
    try (refine wpList_nil ?_)
    repeat with_reducible first | refine wp_seq ?_ | refine nThen ?_ | refine wp_skip ?_ | refine wp_ret ?_ | refine rThen ?_
    refine' reg_all hF ?_ mixed (by kernel_rfl) ?_
    rotate_left
    · repeat (first
          | exact Line.nil
          | (refine' Line.cons rfl (.no rfl rfl rfl rfl rfl rfl) ?_; rotate_left)
          | ((first | refine' Line.cons rfl (.run rfl rfl ?_) ?_ | refine' Line.cons rfl (.yes rfl rfl rfl rfl ?_) ?_)
             any_goals (first | exact cMove rfl rfl | exact cAssign rfl rfl | exact cNot rfl rfl | exact OpOk.b (c := false) (cNeq rfl rfl rfl) rfl | exact cPickT rfl rfl rfl | exact cPickF rfl rfl rfl | exact cGtr rfl rfl rfl | exact cEql rfl rfl rfl | exact cNeq rfl rfl rfl | exact cExtract rfl rfl rfl)
             rotate_left))
    intro a w7 hF hb hN
    have hBs := hB.size
    replace hB := hB.trans (hb.mono hB.size)
    dsimp only [ext, Option.getD] at hF
    repeat with_reducible first | refine wp_seq ?_ | refine nThen ?_ | refine wp_skip ?_ | refine wp_ret ?_ | refine rThen ?_
    refine cond_f hF rfl ?_
    repeat with_reducible first | refine wp_seq ?_ | refine nThen ?_ | refine wp_skip ?_ | refine wp_ret ?_ | refine rThen ?_
    refine wp_region_lit ?_
    refine' tlOp hF rfl rfl rfl ?_ ?_
    rotate_left
    · first | exact cMove rfl rfl | exact cLoadTab46 rfl (.t rfl) | exact cCallR2 rfl (.t rfl) (.t rfl) m1 (tabE_olds _ _ _ _)
    intro a w8_0 hF hb
    replace hB := hB.trans (hb.mono hB.size)
    refine' tlOp hF rfl rfl rfl ?_ ?_
    rotate_left
    · first | exact cMove rfl rfl | exact cLoadTab46 rfl (.t rfl) | exact cCallR2 rfl (.t rfl) (.t rfl) m1 (tabE_olds _ _ _ _)
    intro a w8_1 hF hb
    replace hB := hB.trans (hb.mono hB.size)
    refine' tlOp hF rfl rfl rfl ?_ ?_
    rotate_left
    · first | exact cMove rfl rfl | exact cLoadTab46 rfl (.t rfl) | exact cCallR2 rfl (.t rfl) (.t rfl) m1 (tabE_olds _ _ _ _)
    intro a w8_2 hF hb
    replace hB := hB.trans (hb.mono hB.size)
    refine' tlOp hF rfl rfl rfl ?_ ?_
    rotate_left
    · first | exact cMove rfl rfl | exact cLoadTab46 rfl (.t rfl) | exact cCallR2 rfl (.t rfl) (.t rfl) m1 (tabE_olds _ _ _ _)
    intro a w8_3 hF hb
    replace hB := hB.trans (hb.mono hB.size)
    refine' tlOp hF rfl rfl rfl ?_ ?_
    rotate_left
    · exact cExtT rfl rfl
    intro a w8_t hF hb
    replace hB := hB.trans (hb.mono hB.size)
    refine' tlOp hF rfl rfl rfl ?_ ?_
    rotate_left
    · exact cExtE rfl rfl
    intro a w8_e hF hb
    replace hB := hB.trans (hb.mono hB.size)
    refine tlNewTab hF rfl rfl rfl (by decide) rfl (run_alloc_i infoT46) rfl rfl rfl rfl tabO_tab sizeT46 fun a w8_n hF hb => ?_
    replace hB := hB.trans (hb.mono hB.size)
    refine' tlOp hF rfl rfl rfl ?_ ?_
    rotate_left
    · exact cAssign rfl rfl
    intro a w8 hF hb
    replace hB := hB.trans (hb.mono hB.size)
    try (refine wpList_nil ?_)
    repeat with_reducible first | refine wp_seq ?_ | refine nThen ?_ | refine wp_skip ?_ | refine wp_ret ?_ | refine rThen ?_
    refine wp_region_lit ?_
    refine' tlOp hF rfl rfl rfl ?_ ?_
    rotate_left
    · first | exact cMove rfl rfl | exact cLoadTab46 rfl (.t rfl) | exact cCall1 rfl rfl hAll
    intro a w9_0 hF hb
    replace hB := hB.trans (hb.mono hB.size)
    refine' tlOp hF rfl rfl rfl ?_ ?_
    rotate_left
    · first | exact cMove rfl rfl | exact cLoadTab46 rfl (.t rfl) | exact cCall1 rfl rfl hAll
    intro a w9_1 hF hb
    replace hB := hB.trans (hb.mono hB.size)
    refine' tlOp hF rfl rfl rfl ?_ ?_
    rotate_left
    · first | exact cMove rfl rfl | exact cLoadTab46 rfl (.t rfl) | exact cCall1 rfl rfl hAll
    intro a w9_2 hF hb
    replace hB := hB.trans (hb.mono hB.size)
    refine' tlOp hF rfl rfl rfl ?_ ?_
    rotate_left
    · exact cExtract rfl rfl rfl
    intro a w9_t hF hb
    replace hB := hB.trans (hb.mono hB.size)
    refine' tlOp hF rfl rfl rfl ?_ ?_
    rotate_left
    · exact cExtract rfl rfl rfl
    intro a w9_e hF hb
    replace hB := hB.trans (hb.mono hB.size)
    refine tlNewRes hF rfl rfl rfl (by decide) rfl rfl rfl rfl rfl fun a w9_n hF hb => ?_
    replace hB := hB.trans (hb.mono hB.size)
    refine' tlOp hF rfl rfl rfl ?_ ?_
    rotate_left
    · exact cAssign rfl rfl
    intro a w9 hF hb
    replace hB := hB.trans (hb.mono hB.size)
    try (refine wpList_nil ?_)
    repeat with_reducible first | refine wp_seq ?_ | refine nThen ?_ | refine wp_skip ?_ | refine wp_ret ?_ | refine rThen ?_
    refine' reg_all hF ?_ mixed (by kernel_rfl) ?_
    rotate_left
    · repeat (first
          | exact Line.nil
          | (refine' Line.cons rfl (.no rfl rfl rfl rfl rfl rfl) ?_; rotate_left)
          | ((first | refine' Line.cons rfl (.run rfl rfl ?_) ?_ | refine' Line.cons rfl (.yes rfl rfl rfl rfl ?_) ?_)
             any_goals (first | exact cMove rfl rfl | exact cAssign rfl rfl | exact cNot rfl rfl | exact OpOk.b (c := true) (cNeq rfl rfl rfl) rfl | exact cPickT rfl rfl rfl | exact cPickF rfl rfl rfl | exact cGtr rfl rfl rfl | exact cEql rfl rfl rfl | exact cNeq rfl rfl rfl | exact cExtract rfl rfl rfl)
             rotate_left))
    intro a w10 hF hb hN
    have hBs := hB.size
    replace hB := hB.trans (hb.mono hB.size)
    dsimp only [ext, Option.getD] at hF
    repeat with_reducible first | refine wp_seq ?_ | refine nThen ?_ | refine wp_skip ?_ | refine wp_ret ?_ | refine rThen ?_
    refine cond_t hF rfl ?_
    repeat with_reducible first | refine wp_seq ?_ | refine nThen ?_ | refine wp_skip ?_ | refine wp_ret ?_ | refine rThen ?_
    refine' reg_all hF ?_ mixed (by kernel_rfl) ?_
    rotate_left
    · repeat (first
          | exact Line.nil
          | (refine' Line.cons rfl (.no rfl rfl rfl rfl rfl rfl) ?_; rotate_left)
          | ((first | refine' Line.cons rfl (.run rfl rfl ?_) ?_ | refine' Line.cons rfl (.yes rfl rfl rfl rfl ?_) ?_)
             any_goals (first | exact cMove rfl rfl | exact cAssign rfl rfl | exact cNot rfl rfl | exact OpOk.b (c := true) (cEql rfl rfl rfl) rfl | exact cPickT rfl rfl rfl | exact cPickF rfl rfl rfl | exact cGtr rfl rfl rfl | exact cEql rfl rfl rfl | exact cNeq rfl rfl rfl | exact cExtract rfl rfl rfl)
             rotate_left))
    intro a w11 hF hb hN
    have hBs := hB.size
    replace hB := hB.trans (hb.mono hB.size)
    dsimp only [ext, Option.getD] at hF
    repeat with_reducible first | refine wp_seq ?_ | refine nThen ?_ | refine wp_skip ?_ | refine wp_ret ?_ | refine rThen ?_
    refine ret1 hF rfl rfl fun z hz => ?_
    exact ⟨by rw [show z = .bool true from hz], hB⟩
  have hok := ok_resN h0
  rw [h0] at hAll
  obtain ⟨hz0, hl0, eS, _⟩ := ok_left hok
  rw [eS] at hAll
  have hTZ := tzero_ty seed (resL seed D)
  rw [hl0, hDg, hz0] at hTZ
  have hag := ok_again hg hDl hDn hok
  have hap := ok_apart hok
  have hct := ok_count hDn hok
  have hPl := resP_len (seed := seed) (L := D)
  have hQl := resM_len (seed := seed) (L := D)
  clear h0 hok eS hz0 hl0
  generalize resP seed D = P at *
  generalize resM seed D = K at *
  generalize resL seed D = RL at *
  have o3 := tof_ty seed n P (by omega) hsd
  have o4 := tof_ty seed n K (by omega) hsd
  rw [newE_good hg, newS_good hg] at o3 o4
  have hl3 : (ofL seed n P).length = n.toNat := ofL_len hg
  have hl4 : (ofL seed n K).length = n.toNat := ofL_len hg
  have hg3 := ofL_good (seed := seed) (D := P) hg
  have m2 := tminus_ty seed seed (ofL seed n P) (ofL seed n K)
  have k2 := minOk_good (s := seed) hg3 (hl3.trans hl4.symm)
  rw [minL_good k2, minS_good k2, minE_good k2, hag] at m2
  clear k2 hl3 hl4 hg3 hag
  generalize ofL seed n P = A3 at *
  generalize ofL seed n K = A4 at *
  have hBt := both_ty P K (by omega) (by omega)
  rw [show bothL P K = [] from List.eq_nil_iff_forall_not_mem.2 fun y hy => hap y (bothL_mem.1 hy).1 (bothL_mem.1 hy).2] at hBt
  have tC := tcount_ty seed D
  rw [show countN D = (P.length : Int) - K.length by unfold countN; rw [hDg, if_pos rfl, hct]; exact w64_in (by omega)] at tC
  obtain ⟨N, hN, hN1, hN2⟩ := goodN_rng hg
  have tO := tableOf16_ty seed D (by omega)
  have tS := sameT16_ty seed seed D D (by omega)
  rw [decide_eq_true rfl, decide_eq_true rfl] at tS
  clear hct hap hDn hDl hDg
  refine wp_region_lit ?_
  refine' tlOp hF rfl rfl rfl ?_ ?_
  rotate_left
  · first | exact cMove rfl rfl | exact cCallS1 rfl (.l rfl (TA.below h2 hB)) f1 | exact cCallR3 rfl (.t rfl) (.t rfl) (Has.c (.t rfl) seg_sl) o1 (tabE_olds _ _ _ _)
  intro a w5_0 hF hb
  replace hB := hB.trans (hb.mono hB.size)
  refine' tlOp hF rfl rfl rfl ?_ ?_
  rotate_left
  · first | exact cMove rfl rfl | exact cCallS1 rfl (.l rfl (TA.below h2 hB)) f1 | exact cCallR3 rfl (.t rfl) (.t rfl) (Has.c (.t rfl) seg_sl) o1 (tabE_olds _ _ _ _)
  intro a w5_1 hF hb
  replace hB := hB.trans (hb.mono hB.size)
  refine' tlOp hF rfl rfl rfl ?_ ?_
  rotate_left
  · first | exact cMove rfl rfl | exact cCallS1 rfl (.l rfl (TA.below h2 hB)) f1 | exact cCallR3 rfl (.t rfl) (.t rfl) (Has.c (.t rfl) seg_sl) o1 (tabE_olds _ _ _ _)
  intro a w5_2 hF hb
  replace hB := hB.trans (hb.mono hB.size)
  refine' tlOp hF rfl rfl rfl ?_ ?_
  rotate_left
  · first | exact cMove rfl rfl | exact cCallS1 rfl (.l rfl (TA.below h2 hB)) f1 | exact cCallR3 rfl (.t rfl) (.t rfl) (Has.c (.t rfl) seg_sl) o1 (tabE_olds _ _ _ _)
  intro a w5_3 hF hb
  replace hB := hB.trans (hb.mono hB.size)
  refine' tlOp hF rfl rfl rfl ?_ ?_
  rotate_left
  · first | exact cMove rfl rfl | exact cCallS1 rfl (.l rfl (TA.below h2 hB)) f1 | exact cCallR3 rfl (.t rfl) (.t rfl) (Has.c (.t rfl) seg_sl) o1 (tabE_olds _ _ _ _)
  intro a w5_4 hF hb
  replace hB := hB.trans (hb.mono hB.size)
  refine' tlOp hF rfl rfl rfl ?_ ?_
  rotate_left
  · first | exact cMove rfl rfl | exact cCallS1 rfl (.l rfl (TA.below h2 hB)) f1 | exact cCallR3 rfl (.t rfl) (.t rfl) (Has.c (.t rfl) seg_sl) o1 (tabE_olds _ _ _ _)
  intro a w5_5 hF hb
  replace hB := hB.trans (hb.mono hB.size)
  refine' tlOp hF rfl rfl rfl ?_ ?_
  rotate_left
  · exact cExtT rfl rfl
  intro a w5_t hF hb
  replace hB := hB.trans (hb.mono hB.size)
  refine' tlOp hF rfl rfl rfl ?_ ?_
  rotate_left
  · exact cExtE rfl rfl
  intro a w5_e hF hb
  replace hB := hB.trans (hb.mono hB.size)
  refine tlNewTab hF rfl rfl rfl (by decide) rfl (run_alloc_i infoT46) rfl rfl rfl rfl tabO_tab sizeT46 fun a w5_n hF hb => ?_
  replace hB := hB.trans (hb.mono hB.size)
  refine' tlOp hF rfl rfl rfl ?_ ?_
  rotate_left
  · exact cAssign rfl rfl
  intro a w5 hF hb
  replace hB := hB.trans (hb.mono hB.size)
  try (refine wpList_nil ?_)
  repeat with_reducible first | refine wp_seq ?_ | refine nThen ?_ | refine wp_skip ?_ | refine wp_ret ?_ | refine rThen ?_
  refine wp_region_lit ?_
  refine' tlOp hF rfl rfl rfl ?_ ?_
  rotate_left
  · first | exact cMove rfl rfl | exact cCallS1 rfl (.l rfl (TB.below h3 hB)) f2 | exact cCallR3 rfl (.t rfl) (.t rfl) (Has.c (.t rfl) seg_sl) o2 (tabE_olds _ _ _ _)
  intro a w6_0 hF hb
  replace hB := hB.trans (hb.mono hB.size)
  refine' tlOp hF rfl rfl rfl ?_ ?_
  rotate_left
  · first | exact cMove rfl rfl | exact cCallS1 rfl (.l rfl (TB.below h3 hB)) f2 | exact cCallR3 rfl (.t rfl) (.t rfl) (Has.c (.t rfl) seg_sl) o2 (tabE_olds _ _ _ _)
  intro a w6_1 hF hb
  replace hB := hB.trans (hb.mono hB.size)
  refine' tlOp hF rfl rfl rfl ?_ ?_
  rotate_left
  · first | exact cMove rfl rfl | exact cCallS1 rfl (.l rfl (TB.below h3 hB)) f2 | exact cCallR3 rfl (.t rfl) (.t rfl) (Has.c (.t rfl) seg_sl) o2 (tabE_olds _ _ _ _)
  intro a w6_2 hF hb
  replace hB := hB.trans (hb.mono hB.size)
  refine' tlOp hF rfl rfl rfl ?_ ?_
  rotate_left
  · first | exact cMove rfl rfl | exact cCallS1 rfl (.l rfl (TB.below h3 hB)) f2 | exact cCallR3 rfl (.t rfl) (.t rfl) (Has.c (.t rfl) seg_sl) o2 (tabE_olds _ _ _ _)
  intro a w6_3 hF hb
  replace hB := hB.trans (hb.mono hB.size)
  refine' tlOp hF rfl rfl rfl ?_ ?_
  rotate_left
  · first | exact cMove rfl rfl | exact cCallS1 rfl (.l rfl (TB.below h3 hB)) f2 | exact cCallR3 rfl (.t rfl) (.t rfl) (Has.c (.t rfl) seg_sl) o2 (tabE_olds _ _ _ _)
  intro a w6_4 hF hb
  replace hB := hB.trans (hb.mono hB.size)
  refine' tlOp hF rfl rfl rfl ?_ ?_
  rotate_left
  · first | exact cMove rfl rfl | exact cCallS1 rfl (.l rfl (TB.below h3 hB)) f2 | exact cCallR3 rfl (.t rfl) (.t rfl) (Has.c (.t rfl) seg_sl) o2 (tabE_olds _ _ _ _)
  intro a w6_5 hF hb
  replace hB := hB.trans (hb.mono hB.size)
  refine' tlOp hF rfl rfl rfl ?_ ?_
  rotate_left
  · exact cExtT rfl rfl
  intro a w6_t hF hb
  replace hB := hB.trans (hb.mono hB.size)
  refine' tlOp hF rfl rfl rfl ?_ ?_
  rotate_left
  · exact cExtE rfl rfl
  intro a w6_e hF hb
  replace hB := hB.trans (hb.mono hB.size)
  refine tlNewTab hF rfl rfl rfl (by decide) rfl (run_alloc_i infoT46) rfl rfl rfl rfl tabO_tab sizeT46 fun a w6_n hF hb => ?_
  replace hB := hB.trans (hb.mono hB.size)
  refine' tlOp hF rfl rfl rfl ?_ ?_
  rotate_left
  · exact cAssign rfl rfl
  intro a w6 hF hb
  replace hB := hB.trans (hb.mono hB.size)
  try (refine wpList_nil ?_)
  repeat with_reducible first | refine wp_seq ?_ | refine nThen ?_ | refine wp_skip ?_ | refine wp_ret ?_ | refine rThen ?_
  refine' reg_all hF ?_ mixed (by kernel_rfl) ?_
  rotate_left
  · repeat (first
        | exact Line.nil
        | (refine' Line.cons rfl (.no rfl rfl rfl rfl rfl rfl) ?_; rotate_left)
        | ((first | refine' Line.cons rfl (.run rfl rfl ?_) ?_ | refine' Line.cons rfl (.yes rfl rfl rfl rfl ?_) ?_)
           any_goals (first | exact cMove rfl rfl | exact cAssign rfl rfl | exact cNot rfl rfl | exact OpOk.b (c := false) (cNeq rfl rfl rfl) rfl | exact cPickT rfl rfl rfl | exact cPickF rfl rfl rfl | exact cGtr rfl rfl rfl | exact cEql rfl rfl rfl | exact cNeq rfl rfl rfl | exact cExtract rfl rfl rfl)
           rotate_left))
  intro a w7 hF hb hN
  have hBs := hB.size
  replace hB := hB.trans (hb.mono hB.size)
  dsimp only [ext, Option.getD] at hF
  repeat with_reducible first | refine wp_seq ?_ | refine nThen ?_ | refine wp_skip ?_ | refine wp_ret ?_ | refine rThen ?_
  refine cond_f hF rfl ?_
  repeat with_reducible first | refine wp_seq ?_ | refine nThen ?_ | refine wp_skip ?_ | refine wp_ret ?_ | refine rThen ?_
  refine wp_region_lit ?_
  refine' tlOp hF rfl rfl rfl ?_ ?_
  rotate_left
  · first | exact cMove rfl rfl | exact cLoadTab46 rfl (.t rfl) | exact cCallR2 rfl (.t rfl) (.t rfl) m1 (tabE_olds _ _ _ _)
  intro a w8_0 hF hb
  replace hB := hB.trans (hb.mono hB.size)
  refine' tlOp hF rfl rfl rfl ?_ ?_
  rotate_left
  · first | exact cMove rfl rfl | exact cLoadTab46 rfl (.t rfl) | exact cCallR2 rfl (.t rfl) (.t rfl) m1 (tabE_olds _ _ _ _)
  intro a w8_1 hF hb
  replace hB := hB.trans (hb.mono hB.size)
  refine' tlOp hF rfl rfl rfl ?_ ?_
  rotate_left
  · first | exact cMove rfl rfl | exact cLoadTab46 rfl (.t rfl) | exact cCallR2 rfl (.t rfl) (.t rfl) m1 (tabE_olds _ _ _ _)
  intro a w8_2 hF hb
  replace hB := hB.trans (hb.mono hB.size)
  refine' tlOp hF rfl rfl rfl ?_ ?_
  rotate_left
  · first | exact cMove rfl rfl | exact cLoadTab46 rfl (.t rfl) | exact cCallR2 rfl (.t rfl) (.t rfl) m1 (tabE_olds _ _ _ _)
  intro a w8_3 hF hb
  replace hB := hB.trans (hb.mono hB.size)
  refine' tlOp hF rfl rfl rfl ?_ ?_
  rotate_left
  · exact cExtT rfl rfl
  intro a w8_t hF hb
  replace hB := hB.trans (hb.mono hB.size)
  refine' tlOp hF rfl rfl rfl ?_ ?_
  rotate_left
  · exact cExtE rfl rfl
  intro a w8_e hF hb
  replace hB := hB.trans (hb.mono hB.size)
  refine tlNewTab hF rfl rfl rfl (by decide) rfl (run_alloc_i infoT46) rfl rfl rfl rfl tabO_tab sizeT46 fun a w8_n hF hb => ?_
  replace hB := hB.trans (hb.mono hB.size)
  refine' tlOp hF rfl rfl rfl ?_ ?_
  rotate_left
  · exact cAssign rfl rfl
  intro a w8 hF hb
  replace hB := hB.trans (hb.mono hB.size)
  try (refine wpList_nil ?_)
  repeat with_reducible first | refine wp_seq ?_ | refine nThen ?_ | refine wp_skip ?_ | refine wp_ret ?_ | refine rThen ?_
  refine wp_region_lit ?_
  refine' tlOp hF rfl rfl rfl ?_ ?_
  rotate_left
  · first | exact cMove rfl rfl | exact cLoadTab46 rfl (.t rfl) | exact cCall1 rfl rfl hAll
  intro a w9_0 hF hb
  replace hB := hB.trans (hb.mono hB.size)
  refine' tlOp hF rfl rfl rfl ?_ ?_
  rotate_left
  · first | exact cMove rfl rfl | exact cLoadTab46 rfl (.t rfl) | exact cCall1 rfl rfl hAll
  intro a w9_1 hF hb
  replace hB := hB.trans (hb.mono hB.size)
  refine' tlOp hF rfl rfl rfl ?_ ?_
  rotate_left
  · first | exact cMove rfl rfl | exact cLoadTab46 rfl (.t rfl) | exact cCall1 rfl rfl hAll
  intro a w9_2 hF hb
  replace hB := hB.trans (hb.mono hB.size)
  refine' tlOp hF rfl rfl rfl ?_ ?_
  rotate_left
  · exact cExtract rfl rfl rfl
  intro a w9_t hF hb
  replace hB := hB.trans (hb.mono hB.size)
  refine' tlOp hF rfl rfl rfl ?_ ?_
  rotate_left
  · exact cExtract rfl rfl rfl
  intro a w9_e hF hb
  replace hB := hB.trans (hb.mono hB.size)
  refine tlNewRes hF rfl rfl rfl (by decide) rfl rfl rfl rfl rfl fun a w9_n hF hb => ?_
  replace hB := hB.trans (hb.mono hB.size)
  refine' tlOp hF rfl rfl rfl ?_ ?_
  rotate_left
  · exact cAssign rfl rfl
  intro a w9 hF hb
  replace hB := hB.trans (hb.mono hB.size)
  try (refine wpList_nil ?_)
  repeat with_reducible first | refine wp_seq ?_ | refine nThen ?_ | refine wp_skip ?_ | refine wp_ret ?_ | refine rThen ?_
  refine' reg_all hF ?_ mixed (by kernel_rfl) ?_
  rotate_left
  · repeat (first
        | exact Line.nil
        | (refine' Line.cons rfl (.no rfl rfl rfl rfl rfl rfl) ?_; rotate_left)
        | ((first | refine' Line.cons rfl (.run rfl rfl ?_) ?_ | refine' Line.cons rfl (.yes rfl rfl rfl rfl ?_) ?_)
           any_goals (first | exact cMove rfl rfl | exact cAssign rfl rfl | exact cNot rfl rfl | exact OpOk.b (c := false) (cNeq rfl rfl rfl) rfl | exact cPickT rfl rfl rfl | exact cPickF rfl rfl rfl | exact cGtr rfl rfl rfl | exact cEql rfl rfl rfl | exact cNeq rfl rfl rfl | exact cExtract rfl rfl rfl)
           rotate_left))
  intro a w10 hF hb hN
  have hBs := hB.size
  replace hB := hB.trans (hb.mono hB.size)
  dsimp only [ext, Option.getD] at hF
  repeat with_reducible first | refine wp_seq ?_ | refine nThen ?_ | refine wp_skip ?_ | refine wp_ret ?_ | refine rThen ?_
  refine cond_f hF rfl ?_
  repeat with_reducible first | refine wp_seq ?_ | refine nThen ?_ | refine wp_skip ?_ | refine wp_ret ?_ | refine rThen ?_
  refine wp_region_lit ?_
  refine' tlOp hF rfl rfl rfl ?_ ?_
  rotate_left
  · first | exact cMove rfl rfl | exact cSelP rfl (.t rfl) | exact cLoadSel rfl rfl | exact cCallR3 rfl (.t rfl) (.t rfl) (.t rfl) o3 (tabE_olds _ _ _ _)
  intro a w11_0 hF hb
  replace hB := hB.trans (hb.mono hB.size)
  refine' tlOp hF rfl rfl rfl ?_ ?_
  rotate_left
  · first | exact cMove rfl rfl | exact cSelP rfl (.t rfl) | exact cLoadSel rfl rfl | exact cCallR3 rfl (.t rfl) (.t rfl) (.t rfl) o3 (tabE_olds _ _ _ _)
  intro a w11_1 hF hb
  replace hB := hB.trans (hb.mono hB.size)
  refine' tlOp hF rfl rfl rfl ?_ ?_
  rotate_left
  · first | exact cMove rfl rfl | exact cSelP rfl (.t rfl) | exact cLoadSel rfl rfl | exact cCallR3 rfl (.t rfl) (.t rfl) (.t rfl) o3 (tabE_olds _ _ _ _)
  intro a w11_2 hF hb
  replace hB := hB.trans (hb.mono hB.size)
  refine' tlOp hF rfl rfl rfl ?_ ?_
  rotate_left
  · first | exact cMove rfl rfl | exact cSelP rfl (.t rfl) | exact cLoadSel rfl rfl | exact cCallR3 rfl (.t rfl) (.t rfl) (.t rfl) o3 (tabE_olds _ _ _ _)
  intro a w11_3 hF hb
  replace hB := hB.trans (hb.mono hB.size)
  refine' tlOp hF rfl rfl rfl ?_ ?_
  rotate_left
  · first | exact cMove rfl rfl | exact cSelP rfl (.t rfl) | exact cLoadSel rfl rfl | exact cCallR3 rfl (.t rfl) (.t rfl) (.t rfl) o3 (tabE_olds _ _ _ _)
  intro a w11_4 hF hb
  replace hB := hB.trans (hb.mono hB.size)
  refine' tlOp hF rfl rfl rfl ?_ ?_
  rotate_left
  · first | exact cMove rfl rfl | exact cSelP rfl (.t rfl) | exact cLoadSel rfl rfl | exact cCallR3 rfl (.t rfl) (.t rfl) (.t rfl) o3 (tabE_olds _ _ _ _)
  intro a w11_5 hF hb
  replace hB := hB.trans (hb.mono hB.size)
  refine' tlOp hF rfl rfl rfl ?_ ?_
  rotate_left
  · exact cExtT rfl rfl
  intro a w11_t hF hb
  replace hB := hB.trans (hb.mono hB.size)
  refine' tlOp hF rfl rfl rfl ?_ ?_
  rotate_left
  · exact cExtE rfl rfl
  intro a w11_e hF hb
  replace hB := hB.trans (hb.mono hB.size)
  refine tlNewTab hF rfl rfl rfl (by decide) rfl (run_alloc_i infoT46) rfl rfl rfl rfl tabO_tab sizeT46 fun a w11_n hF hb => ?_
  replace hB := hB.trans (hb.mono hB.size)
  refine' tlOp hF rfl rfl rfl ?_ ?_
  rotate_left
  · exact cAssign rfl rfl
  intro a w11 hF hb
  replace hB := hB.trans (hb.mono hB.size)
  try (refine wpList_nil ?_)
  repeat with_reducible first | refine wp_seq ?_ | refine nThen ?_ | refine wp_skip ?_ | refine wp_ret ?_ | refine rThen ?_
  refine wp_region_lit ?_
  refine' tlOp hF rfl rfl rfl ?_ ?_
  rotate_left
  · first | exact cMove rfl rfl | exact cSelM rfl (.t rfl) | exact cLoadSel rfl rfl | exact cCallR3 rfl (.t rfl) (.t rfl) (.t rfl) o4 (tabE_olds _ _ _ _)
  intro a w12_0 hF hb
  replace hB := hB.trans (hb.mono hB.size)
  refine' tlOp hF rfl rfl rfl ?_ ?_
  rotate_left
  · first | exact cMove rfl rfl | exact cSelM rfl (.t rfl) | exact cLoadSel rfl rfl | exact cCallR3 rfl (.t rfl) (.t rfl) (.t rfl) o4 (tabE_olds _ _ _ _)
  intro a w12_1 hF hb
  replace hB := hB.trans (hb.mono hB.size)
  refine' tlOp hF rfl rfl rfl ?_ ?_
  rotate_left
  · first | exact cMove rfl rfl | exact cSelM rfl (.t rfl) | exact cLoadSel rfl rfl | exact cCallR3 rfl (.t rfl) (.t rfl) (.t rfl) o4 (tabE_olds _ _ _ _)
  intro a w12_2 hF hb
  replace hB := hB.trans (hb.mono hB.size)
  refine' tlOp hF rfl rfl rfl ?_ ?_
  rotate_left
  · first | exact cMove rfl rfl | exact cSelM rfl (.t rfl) | exact cLoadSel rfl rfl | exact cCallR3 rfl (.t rfl) (.t rfl) (.t rfl) o4 (tabE_olds _ _ _ _)
  intro a w12_3 hF hb
  replace hB := hB.trans (hb.mono hB.size)
  refine' tlOp hF rfl rfl rfl ?_ ?_
  rotate_left
  · first | exact cMove rfl rfl | exact cSelM rfl (.t rfl) | exact cLoadSel rfl rfl | exact cCallR3 rfl (.t rfl) (.t rfl) (.t rfl) o4 (tabE_olds _ _ _ _)
  intro a w12_4 hF hb
  replace hB := hB.trans (hb.mono hB.size)
  refine' tlOp hF rfl rfl rfl ?_ ?_
  rotate_left
  · first | exact cMove rfl rfl | exact cSelM rfl (.t rfl) | exact cLoadSel rfl rfl | exact cCallR3 rfl (.t rfl) (.t rfl) (.t rfl) o4 (tabE_olds _ _ _ _)
  intro a w12_5 hF hb
  replace hB := hB.trans (hb.mono hB.size)
  refine' tlOp hF rfl rfl rfl ?_ ?_
  rotate_left
  · exact cExtT rfl rfl
  intro a w12_t hF hb
  replace hB := hB.trans (hb.mono hB.size)
  refine' tlOp hF rfl rfl rfl ?_ ?_
  rotate_left
  · exact cExtE rfl rfl
  intro a w12_e hF hb
  replace hB := hB.trans (hb.mono hB.size)
  refine tlNewTab hF rfl rfl rfl (by decide) rfl (run_alloc_i infoT46) rfl rfl rfl rfl tabO_tab sizeT46 fun a w12_n hF hb => ?_
  replace hB := hB.trans (hb.mono hB.size)
  refine' tlOp hF rfl rfl rfl ?_ ?_
  rotate_left
  · exact cAssign rfl rfl
  intro a w12 hF hb
  replace hB := hB.trans (hb.mono hB.size)
  try (refine wpList_nil ?_)
  repeat with_reducible first | refine wp_seq ?_ | refine nThen ?_ | refine wp_skip ?_ | refine wp_ret ?_ | refine rThen ?_
  refine wp_region_lit ?_
  refine' tlOp hF rfl rfl rfl ?_ ?_
  rotate_left
  · first | exact cMove rfl rfl | exact cLoadTab46 rfl (.t rfl) | exact cCallR2 rfl (.t rfl) (.t rfl) m2 (tabE_olds _ _ _ _)
  intro a w13_0 hF hb
  replace hB := hB.trans (hb.mono hB.size)
  refine' tlOp hF rfl rfl rfl ?_ ?_
  rotate_left
  · first | exact cMove rfl rfl | exact cLoadTab46 rfl (.t rfl) | exact cCallR2 rfl (.t rfl) (.t rfl) m2 (tabE_olds _ _ _ _)
  intro a w13_1 hF hb
  replace hB := hB.trans (hb.mono hB.size)
  refine' tlOp hF rfl rfl rfl ?_ ?_
  rotate_left
  · first | exact cMove rfl rfl | exact cLoadTab46 rfl (.t rfl) | exact cCallR2 rfl (.t rfl) (.t rfl) m2 (tabE_olds _ _ _ _)
  intro a w13_2 hF hb
  replace hB := hB.trans (hb.mono hB.size)
  refine' tlOp hF rfl rfl rfl ?_ ?_
  rotate_left
  · first | exact cMove rfl rfl | exact cLoadTab46 rfl (.t rfl) | exact cCallR2 rfl (.t rfl) (.t rfl) m2 (tabE_olds _ _ _ _)
  intro a w13_3 hF hb
  replace hB := hB.trans (hb.mono hB.size)
  refine' tlOp hF rfl rfl rfl ?_ ?_
  rotate_left
  · exact cExtT rfl rfl
  intro a w13_t hF hb
  replace hB := hB.trans (hb.mono hB.size)
  refine' tlOp hF rfl rfl rfl ?_ ?_
  rotate_left
  · exact cExtE rfl rfl
  intro a w13_e hF hb
  replace hB := hB.trans (hb.mono hB.size)
  refine tlNewTab hF rfl rfl rfl (by decide) rfl (run_alloc_i infoT46) rfl rfl rfl rfl tabO_tab sizeT46 fun a w13_n hF hb => ?_
  replace hB := hB.trans (hb.mono hB.size)
  refine' tlOp hF rfl rfl rfl ?_ ?_
  rotate_left
  · exact cAssign rfl rfl
  intro a w13 hF hb
  replace hB := hB.trans (hb.mono hB.size)
  try (refine wpList_nil ?_)
  repeat with_reducible first | refine wp_seq ?_ | refine nThen ?_ | refine wp_skip ?_ | refine wp_ret ?_ | refine rThen ?_
  refine' reg_all hF ?_ mixed (by kernel_rfl) ?_
  rotate_left
  · repeat (first
        | exact Line.nil
        | (refine' Line.cons rfl (.no rfl rfl rfl rfl rfl rfl) ?_; rotate_left)
        | ((first | refine' Line.cons rfl (.run rfl rfl ?_) ?_ | refine' Line.cons rfl (.yes rfl rfl rfl rfl ?_) ?_)
           any_goals (first | exact cMove rfl rfl | exact cAssign rfl rfl | exact cNot rfl rfl | exact OpOk.b (c := true) (cEql rfl rfl rfl) rfl | exact cLoadTab46 rfl (.t rfl) | exact cCallR1 rfl (.t rfl) tO (tabO_olds _ _ _) | exact cCallH2 rfl (Has.c (.t rfl) tabO_tab) (Has.c (.t rfl) tabO_tab) tS | exact cSelL rfl (.t rfl) | exact cLoadTabR rfl rfl | exact cCall1 rfl rfl hTZ | exact cSelP rfl (.t rfl) | exact cSelM rfl (.t rfl) | exact cLoadSel rfl rfl | exact cCallS2 rfl (.t rfl) (.t rfl) hBt | exact cLenH rfl (.t rfl) (Ty.seg_isSl _ _ _ _ _) Try.underlying25 | exact cLenH rfl (.t rfl) (Ty.sl_isSl _ _ _) Try.underlying25 | exact cCall1 rfl rfl tC | exact cSub (r := (P.length : Int) - K.length) rfl rfl rfl ⟨rfl, by omega, by omega⟩ | exact OpOk.b (c := true) (cEql rfl rfl rfl) (decide_eq_true rfl) | exact cPickT rfl rfl rfl | exact cPickF rfl rfl rfl | exact cGtr rfl rfl rfl | exact cEql rfl rfl rfl | exact cNeq rfl rfl rfl | exact cExtract rfl rfl rfl)
           rotate_left))
  intro a w14 hF hb hN
  have hBs := hB.size
  replace hB := hB.trans (hb.mono hB.size)
  dsimp only [ext, Option.getD] at hF
  repeat with_reducible first | refine wp_seq ?_ | refine nThen ?_ | refine wp_skip ?_ | refine wp_ret ?_ | refine rThen ?_
  refine ret1 hF rfl rfl fun z hz => ?_
  exact ⟨by rw [show z = .bool true from hz], hB⟩
end Go.Proofs.Ytmlbkcpmgcjblaa

/- From a row's reading of an argument to what a walk takes: slices of bytes; whole numbers. -/
namespace Go.Proofs.Ytmlbkcpmgcjblaa
open Go.RowKit Go.ChangeShapes Go.WideShapes

theorem nat_of_wf {k : IntKind} {n : Int} (h : (Lit.int k n).wf = true) : k.min ≤ n ∧ n ≤ k.max := by
  simpa [Lit.wf] using h

end Go.Proofs.Ytmlbkcpmgcjblaa

/- From a row's reading of an argument to what a walk takes: whole numbers in a slice; sums of thirty-two bytes. -/
namespace Go.Proofs.Ytmlbkcpmgcjblaa
open Go.RowKit Go.ChangeShapes Go.WideShapes

theorem row_ints {H : Type} {enc : TypeId × Value → H} {P : Program} {W : World} {sp : Nat → Bool} {t e : TypeId} {a : Option Addr} {len cap : Nat} {d : DataW H} {ps : List MemPlace}
    (ht : P.underlying t = some (.slice e)) (he : P.underlying e = some (.int .i64)) (hc : P.cellsOf e = 1) (h : DataW.Trod enc P W 0 sp true t (.slice a len cap) d ps) :
    ∃ l : List Int, l.length = len ∧ len ≤ cap ∧ len ≤ maxLen ∧ Rd W a (l.map (Value.int .i64)) ∧ (a = none → len = 0) ∧ ∀ x ∈ l, -9223372036854775808 ≤ x ∧ x ≤ 9223372036854775807 := by
  obtain ⟨fuel, hf⟩ := h
  rcases open_ints ht he hc hf with ⟨hcs, _⟩ | ⟨x, l, c, zs, hcs, _, hl, hm, hz, _, hcell, hwz⟩
  · simp [Value.cells] at hcs
    obtain ⟨rfl, rfl, rfl⟩ := hcs
    exact ⟨[], rfl, Nat.le_refl _, Nat.zero_le _, Rd.nil _ _, fun _ => rfl, by simp⟩
  · simp [Value.cells] at hcs
    obtain ⟨rfl, rfl, rfl⟩ := hcs
    have hlz : len ≤ zs.length := by rw [hz]; split <;> omega
    refine ⟨zs.take len, by simp; omega, hl, by omega, ?_, by simp, ?_⟩
    · intro j v hv
      refine ⟨x, rfl, ?_⟩
      rw [List.getElem?_map, List.getElem?_take] at hv
      split at hv
      · rename_i hj
        have hjz : j < zs.length := by omega
        rw [List.getElem?_eq_getElem hjz] at hv
        simp only [Option.map_some, Option.some.injEq] at hv
        rw [hcell j hjz, ← hv]
        simp [List.getD, List.getElem?_eq_getElem hjz]
      · simp at hv
    · intro y hy
      have := nat_of_wf (hwz y (List.mem_of_mem_take hy))
      simpa [IntKind.min, IntKind.max, IntKind.signed, IntKind.bits] using this

theorem take1_drop {α : Type} {l : List α} {i : Nat} {v : α} (h : (l.drop i).take 1 = [v]) : l[i]? = some v := by
  have h1 : ((l.drop i).take 1)[0]? = some v := by rw [h]; rfl
  rw [List.getElem?_take, if_pos (by omega), List.getElem?_drop] at h1
  simpa using h1

/-- Thirty-two cells that read as an array of bytes are a sum. -/
theorem sm_of_cells {H : Type} {enc : TypeId × Value → H} {P : Program} {W : World} {base : Nat} {sp : Nat → Bool} {held : Bool} {t e : TypeId} {fuel : Nat} {cs : List Value} {x : DataW H × List MemPlace}
    (ht : P.underlying t = some (.array 32 e)) (he : P.underlying e = some (.int .u8)) (hC : P.cellsOf t = 32) (hc : P.cellsOf e = 1) (h : DataW.trod enc P W base sp held fuel t cs = some x) :
    ∃ s : Sm, cs = s.enc := by
  obtain ⟨xs, m, _, _, hlen, hxl, hi⟩ := DataW.trod_array ht h
  rw [hC] at hlen
  have hcell : ∀ i, i < 32 → ∃ n : Nat, cs[i]? = some (bv n) ∧ n < 256 := fun i hlt => by
    have h1 := hi i hlt
    rw [hc, Nat.mul_one, List.getElem?_eq_getElem (by omega)] at h1
    obtain ⟨n, h2, _, hw⟩ := DataW.trod_int he h1
    have hb := nat_of_wf hw
    simp only [IntKind.min, IntKind.max, IntKind.signed, IntKind.bits] at hb
    obtain ⟨k, rfl⟩ := Int.eq_ofNat_of_zero_le (show 0 ≤ n by simpa using hb.1)
    exact ⟨k, take1_drop h2, by have := hb.2; simp at this; omega⟩
  let f : Value → Nat := fun v => match v with | .int _ n => n.toNat | _ => 0
  have hfb : ∀ n : Nat, f (bv n) = n := fun n => by show (n : Int).toNat = n; omega
  refine ⟨⟨cs.map f, by simpa using hlen, ?_⟩, ?_⟩
  · intro b hb
    obtain ⟨v, hv, rfl⟩ := List.mem_map.1 hb
    obtain ⟨i, hiv⟩ := List.getElem?_of_mem hv
    obtain ⟨n, h1, h2⟩ := hcell i (by have := (List.getElem?_eq_some_iff.1 hiv).1; omega)
    rw [hiv] at h1
    injection h1 with h1
    rw [h1, hfb]; exact h2
  · unfold Sm.enc
    apply List.ext_getElem?
    intro i
    rw [List.getElem?_map, List.getElem?_map]
    by_cases hlt : i < 32
    · obtain ⟨n, h1, _⟩ := hcell i hlt
      rw [h1]
      simp only [Option.map_some, hfb]
    · rw [List.getElem?_eq_none (by omega)]; rfl
end Go.Proofs.Ytmlbkcpmgcjblaa
