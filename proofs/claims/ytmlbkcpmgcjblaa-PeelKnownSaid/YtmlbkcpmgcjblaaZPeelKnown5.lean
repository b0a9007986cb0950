/- Joined: TabO, PeelI, PeelJ, PeelL, TabQ, SetR, TabS, TabT, TabV, TyFz, TyFy, SetL, SetM, SetN, SetO, SetQ, PeelT, Row. -/
import Derived.RegionTactic
import Derived.Laws.IdiomStrings
import Derived.ProofKit
import Derived.OpenShut
import Derived.ShutString
import Derived.ChangeOld
import Derived.SizedLaws
import Derived.ChangeSlices
import Derived.Carry
import Derived.Test.YtmlbkcpmgcjblaaZPeelKnown4
/- Layer 15 by types: TableKnown. -/
namespace Go.Proofs.Ytmlbkcpmgcjblaa
open Go.RowKit

theorem newL_good {n : Int} (h : goodN n = true) : newL n = tzero n.toNat := by unfold newL; rw [h]; rfl
theorem minL_good {s t : Nat} {A B : List Cl} (h : minOk s t A B = true) : minL s t A B = tminus A B := by unfold minL; rw [h]; rfl
theorem minS_good {s t : Nat} {A B : List Cl} (h : minOk s t A B = true) : minS s t A B = s := by unfold minS; rw [h]; rfl
theorem minE_good {s t : Nat} {A B : List Cl} (h : minOk s t A B = true) : minE s t A B = .int .i64 0 := by unfold minE; rw [h]; rfl
theorem tab_none {e : TypeId} : ∀ (w : World) (v : Value), (Ty.ex (.agg #[.int .u64 0, .slice none 0 0])).p w v → (Ty.tab e 0 []).p w v := fun w _ h => ⟨_, h, (Seg.nil w e 65).sl⟩
end Go.Proofs.Ytmlbkcpmgcjblaa

/- peel.Own by types. -/
namespace Go.Proofs.Ytmlbkcpmgcjblaa
open Go.RowKit

/-- The address of a result that is read. -/
def Ty.resA (P M : List Sm) (sd : Nat) (L : List Cl) : Ty := ⟨fun w v => ∃ p q s, (Ty.at_ ResT [p, q, .int .u64 (sd : Int), s]).p w v ∧ SlP w 34 p P.length (flat P) ∧ SlP w 34 q M.length (flat M) ∧ SlP w 87 s L.length (flatC L), fun t => t == ResT || (t == 34 || t == 87), fun {w w' v G} ⟨p, q, s, h1, h2, h3, h4⟩ k hA => by
  have a0 : Apart w G (fun t => t == ResT) := fun b hb hl => let ⟨cs, t, fr, k1, k2⟩ := hA b hb hl; ⟨cs, t, fr, k1, by simp only [Bool.or_eq_false_iff] at k2; exact k2.1⟩
  have a1 : Apart w G (fun t => t == 34) := fun b hb hl => let ⟨cs, t, fr, k1, k2⟩ := hA b hb hl; ⟨cs, t, fr, k1, by simp only [Bool.or_eq_false_iff] at k2; exact k2.2.1⟩
  have a2 : Apart w G (fun t => t == 87) := fun b hb hl => let ⟨cs, t, fr, k1, k2⟩ := hA b hb hl; ⟨cs, t, fr, k1, by simp only [Bool.or_eq_false_iff] at k2; exact k2.2.2⟩
  exact ⟨p, q, s, (Ty.at_ ResT _).st h1 k a0, (Ty.sums 34 P).st h2 k a1, (Ty.sums 34 M).st h3 k a1, (Ty.cls 87 L).st h4 k a2⟩⟩
section
variable {ops : Array Oper} {Q : Exit → Act → World → Prop} {N : Nat} {Γ : Ctx} {a : Act} {w : World} {o1 o2 : Oper} {rest : List Oper}
theorem tlNewRes {p q : Nat} {P M : List Sm} {seed : Nat} {L : List Cl} (hF : Fr N Γ a w) (h1 : o1.op = .alloc ResT) (hg1 : o1.guard = none) (hd1 : o1.dst = some p) (hp : p < N) (hpq : Nat.beq p q = false)
    (h2 : o2.op = .store ResT (.tmp p) (.tmp q)) (hg2 : o2.guard = none) (hd2 : o2.dst = none) (hq : look Γ q = some (Ty.res P M seed L))
    (hk : ∀ a' w', Fr N ((p, Ty.resA P M seed L) :: Γ) a' w' → Below w.heap.size w w' → wpList Try.prog ops Q rest a' w') : wpList Try.prog ops Q (o1 :: o2 :: rest) a w := by
  obtain ⟨v, ⟨x, y, s, rfl, k1, k2, k3⟩, hFo⟩ := hF.open hq
  refine wpList_plain hg1 fun K hK => ?_
  unfold Oper.wp execOp
  simp only [h1, Sem.run_bind, run_alloc_i infoRes, Result.andThen_ok, Sem.run_pure]
  refine hK _ _ ?_
  rw [hd1]
  have hb1 : Below w.heap.size w (w.alloc (.cells #[nilS, nilS, .int .u64 0, nilS] ResT)) := ((Keeps.refl [] w).alloc _).below
  have hF1 : Fr N ((p, Ty.ex (.pointer (some ⟨w.heap.size, 0, none⟩))) :: (q, Ty.ex (.agg #[x, y, .int .u64 (seed : Int), s])) :: Γ) (a.put (some p) (.pointer (some ⟨w.heap.size, 0, none⟩))) (w.alloc (.cells #[nilS, nilS, .int .u64 0, nilS] ResT)) := hFo.put hp hb1 rfl
  have hv3 := hF1.getEx (s := q) (v := .agg #[x, y, .int .u64 (seed : Int), s]) (by rw [look]; simp only [hpq, cond_false]; exact look_same _ _ _)
  refine tlStoreV (Δ := []) hF1 hg2 hd2 h2 (look_same _ _ _) hv3 (Blk.new w _ _) rfl (by rw [sizeRes]; rfl) (res_one (sl_isA k1) (sl_isA k2) (sl_isA k3)) (hF1.keep []) rfl ?_
  intro w' _ hb' hkx
  have hB := below_own hb1 hkx (by intro y hy; simp only [List.mem_singleton] at hy; omega)
  refine hk _ _ (hF.put hp hB ⟨x, y, s, ⟨w.heap.size, 0, _, (0, 0), rfl, hb', fun j u h => by simpa [Value.cells] using h⟩, (Ty.sums 34 P).below k1 hB, (Ty.sums 34 M).below k2 hB, (Ty.cls 87 L).below k3 hB⟩) hB
end
section
variable {w0 : World} {Γ : Ctx} {o : Oper} {x : Operand} {e : TypeId} {xs : List Value}
theorem sizeSL1 : (Try.prog.info? 25).map (·.size) = some 1 := by kernel_rfl
theorem cResP (ho : o.op = .fieldAddr ResT x 0) (hx : Has w0 Γ x (Ty.at_ e xs)) : OpOk Try.prog w0 Γ o (Ty.at_ e xs) :=
  (cFieldE (P := Try.prog) ho hx Try.underlying83 rfl sizeSL1).conv fun _ _ h => h
theorem cResM (ho : o.op = .fieldAddr ResT x 1) (hx : Has w0 Γ x (Ty.at_ e xs)) : OpOk Try.prog w0 Γ o (Ty.at_ e (xs.drop 1)) :=
  cFieldE (P := Try.prog) ho hx Try.underlying83 rfl sizeSL1
end
theorem sums_nil (w : World) : (Ty.sums 34 []).p w nilS := sl_nil w 34
theorem own_min {seed : Nat} {L : List Cl} {M : List Sm} (hg : goodN (L.length : Int) = true) : minOk seed seed L (ofL seed (L.length : Int) M) = true := minOk_good hg (ofL_len' hg).symm
set_option maxRecDepth 100000 in
set_option maxHeartbeats 4000000 in
theorem own_ty (seed : Nat) (L : List Cl) (M : List Sm) (hM : M.length ≤ 1000000) (hsd : seed < 18446744073709551616) : Fn2 Try.prog 60 (Ty.tab 87 seed L) (Ty.sums 34 M) (Ty.tup [Ty.sums 34 (ownP seed L M), Ty.sums 34 (ownQ seed L M), Ty.ex (.int .i64 (ownN seed L M))]) := by
  refine ⟨fun args w => by kernel_rfl, fun w v u ⟨s, hv, hs⟩ hu => ?_⟩
  subst hv
  have hG := tgood_ty seed L
  have hGd := good_ty M hM
  have eN := ownN.eq_1 seed L M
  refine enter_ty 63 [Ty.ex (.agg #[.int .u64 (seed : Int), s]), Ty.ex u] Try.func60 rfl (by kernel_rfl) ⟨rfl, rfl, trivial⟩ fun a hF => ?_
  have hB := Below.refl w.heap.size w
  let TL := Ty.cls 87 L
  let TM := Ty.sums 34 M
  repeat with_reducible first | refine wp_seq ?_ | refine nThen ?_ | refine nBlk ?_ | refine wp_skip ?_ | refine wp_block ?_ | refine wp_ret ?_ | refine rThen ?_ | refine rBlk ?_
  refine' reg_all hF ?_ mixed (by kernel_rfl) ?_
  rotate_left
  · repeat (first
        | exact Line.nil
        | (refine' Line.cons rfl (.no rfl rfl rfl rfl rfl rfl) ?_; rotate_left)
        | ((first | refine' Line.cons rfl (.run rfl rfl ?_) ?_ | refine' Line.cons rfl (.yes rfl rfl rfl rfl ?_) ?_)
           any_goals (first | exact cMove rfl rfl | exact cAssign rfl rfl | exact cNot rfl rfl | exact cBoxTab rfl rfl | exact cPickT rfl rfl rfl | exact cPickF rfl rfl rfl | exact cGtr rfl rfl rfl | exact cNeq rfl rfl rfl | exact cExtract rfl rfl rfl)
           rotate_left))
  intro a w1 hF hb hN
  have hBs := hB.size
  replace hB := hB.trans (hb.mono hB.size)
  dsimp only [ext, Option.getD] at hF
  repeat with_reducible first | refine wp_seq ?_ | refine nThen ?_ | refine nBlk ?_ | refine wp_skip ?_ | refine wp_block ?_ | refine wp_ret ?_ | refine rThen ?_ | refine rBlk ?_
  have hs1 := TL.below hs hB
  have hu1 := TM.below hu hB
  have ht1 : (Ty.tab 87 seed L).p w1 (.agg #[.int .u64 (seed : Int), s]) := ⟨s, rfl, hs1⟩
  repeat with_reducible first | refine wp_seq ?_ | refine nThen ?_ | refine nBlk ?_ | refine wp_skip ?_ | refine wp_block ?_ | refine wp_ret ?_ | refine rThen ?_ | refine rBlk ?_
  refine wp_mono (Q := fun e a w' => e = .normal ∧ Fr 63 [(1, Ty.ex u), (2, Ty.at_ 41 [.int .u64 (seed : Int), s]), (20, Ty.ex (.bool (!(goodN (L.length : Int) && goodL M))))] a w' ∧ Below w.heap.size w w') ?_ ?_
  · cases hg : goodN (L.length : Int) with
    | false =>
      rw [hg] at hG
      rw [Bool.false_and]
      refine' reg_all hF ?_ mixed (by kernel_rfl) ?_
      rotate_left
      · repeat (first
            | exact Line.nil
            | (refine' Line.cons rfl (.no rfl rfl rfl rfl rfl rfl) ?_; rotate_left)
            | ((first | refine' Line.cons rfl (.run rfl rfl ?_) ?_ | refine' Line.cons rfl (.yes rfl rfl rfl rfl ?_) ?_)
               any_goals (first | exact cMove rfl rfl | exact cAssign rfl rfl | exact cNot rfl rfl | exact cLoadT46 rfl (.t rfl) | exact cCallH1 rfl (.l rfl ht1) hG | exact cPickT rfl rfl rfl | exact cPickF rfl rfl rfl | exact cGtr rfl rfl rfl | exact cNeq rfl rfl rfl | exact cExtract rfl rfl rfl)
               rotate_left))
      intro a w2 hF hb hN
      have hBs := hB.size
      replace hB := hB.trans (hb.mono hB.size)
      dsimp only [ext, Option.getD] at hF
      repeat with_reducible first | refine wp_seq ?_ | refine nThen ?_ | refine nBlk ?_ | refine wp_skip ?_ | refine wp_block ?_ | refine wp_ret ?_ | refine rThen ?_ | refine rBlk ?_
      exact ⟨rfl, hF.keep [1, 2, 20], hB⟩
    | true =>
      rw [hg] at hG
      rw [Bool.true_and]
      refine' reg_all hF ?_ mixed (by kernel_rfl) ?_
      rotate_left
      · repeat (first
            | exact Line.nil
            | (refine' Line.cons rfl (.no rfl rfl rfl rfl rfl rfl) ?_; rotate_left)
            | ((first | refine' Line.cons rfl (.run rfl rfl ?_) ?_ | refine' Line.cons rfl (.yes rfl rfl rfl rfl ?_) ?_)
               any_goals (first | exact cMove rfl rfl | exact cAssign rfl rfl | exact cNot rfl rfl | exact cLoadT46 rfl (.t rfl) | exact cCallH1 rfl (.l rfl ht1) hG | exact cCallH1 rfl (.l rfl hu1) hGd | exact cPickT rfl rfl rfl | exact cPickF rfl rfl rfl | exact cGtr rfl rfl rfl | exact cNeq rfl rfl rfl | exact cExtract rfl rfl rfl)
               rotate_left))
      intro a w2 hF hb hN
      have hBs := hB.size
      replace hB := hB.trans (hb.mono hB.size)
      dsimp only [ext, Option.getD] at hF
      repeat with_reducible first | refine wp_seq ?_ | refine nThen ?_ | refine nBlk ?_ | refine wp_skip ?_ | refine wp_block ?_ | refine wp_ret ?_ | refine rThen ?_ | refine rBlk ?_
      exact ⟨rfl, hF.keep [1, 2, 20], hB⟩
  clear hF hB hs1 hu1 ht1
  rintro e a w2 ⟨rfl, hF, hB⟩
  repeat with_reducible first | refine wp_seq ?_ | refine nThen ?_ | refine nBlk ?_ | refine wp_skip ?_ | refine wp_block ?_ | refine wp_ret ?_ | refine rThen ?_ | refine rBlk ?_
  cases hok : (goodN (L.length : Int) && goodL M) with
  | false =>
    rw [hok] at hF eN
    rw [if_neg (by decide)] at eN
    rw [show ownP seed L M = [] by unfold ownP; rw [eN]; rfl, show ownQ seed L M = [] by unfold ownQ; rw [eN]; rfl, eN]
    refine cond_t hF rfl ?_
    repeat with_reducible first | refine wp_seq ?_ | refine nThen ?_ | refine nBlk ?_ | refine wp_skip ?_ | refine wp_block ?_ | refine wp_ret ?_ | refine rThen ?_ | refine rBlk ?_
    refine' reg_all hF ?_ mixed (by kernel_rfl) ?_
    rotate_left
    · repeat (first
          | exact Line.nil
          | (refine' Line.cons rfl (.no rfl rfl rfl rfl rfl rfl) ?_; rotate_left)
          | ((first | refine' Line.cons rfl (.run rfl rfl ?_) ?_ | refine' Line.cons rfl (.yes rfl rfl rfl rfl ?_) ?_)
             any_goals (first | exact cMove rfl rfl | exact cAssign rfl rfl | exact cNot rfl rfl | exact cPickT rfl rfl rfl | exact cPickF rfl rfl rfl | exact cGtr rfl rfl rfl | exact cNeq rfl rfl rfl | exact cExtract rfl rfl rfl)
             rotate_left))
    intro a w3 hF hb hN
    have hBs := hB.size
    replace hB := hB.trans (hb.mono hB.size)
    dsimp only [ext, Option.getD] at hF
    repeat with_reducible first | refine wp_seq ?_ | refine nThen ?_ | refine nBlk ?_ | refine wp_skip ?_ | refine wp_block ?_ | refine wp_ret ?_ | refine rThen ?_ | refine rBlk ?_
    refine ret3 hF rfl rfl rfl rfl fun a b c ha hb hc => ?_
    exact ⟨_, rfl, ⟨[a, b, c], rfl, by rw [show a = nilS from ha]; exact sums_nil _, by rw [show b = nilS from hb]; exact sums_nil _, hc, trivial⟩, hB⟩
  | true =>
  rw [hok] at hF eN
  rw [if_pos rfl] at eN
  simp only [Bool.and_eq_true] at hok
  obtain ⟨hgd, _⟩ := hok
  have o1 := tof_ty seed (L.length : Int) M hM hsd
  rw [newE_good hgd, newS_good hgd] at o1
  have m1 := tminus_ty seed seed L (ofL seed (L.length : Int) M)
  have k1 := own_min (seed := seed) (M := M) hgd
  rw [minL_good k1, minS_good k1, minE_good k1] at m1
  have eD : tminus L (ofL seed (L.length : Int) M) = ownD seed L M := rfl
  rw [eD] at m1
  have hDl := ownD_len (seed := seed) (M := M) hgd
  have hAll := pall_ty seed (ownD seed L M) hsd
  have eB := ownB.eq_1 seed L M
  have eP : ownP seed L M = if ownN seed L M = 0 then resP seed (ownD seed L M) else [] := rfl
  have eQ : ownQ seed L M = if ownN seed L M = 0 then resM seed (ownD seed L M) else [] := rfl
  rw [eP, eQ, eN, eB]
  clear eP eQ eN eB eD k1
  have hPl := resP_len (seed := seed) (L := ownD seed L M)
  have hQl := resM_len (seed := seed) (L := ownD seed L M)
  generalize ownD seed L M = D at *
  generalize ofL seed (L.length : Int) M = O at *
  generalize resN seed D = en at *
  generalize resP seed D = P at *
  generalize resM seed D = K at *
  generalize resS seed D = sd at *
  generalize resL seed D = RL at *
  have hmn := minus_ty K M (by omega) hM
  have hbt := both_ty P M (by omega) hM
  refine cond_f hF rfl ?_
  repeat with_reducible first | refine wp_seq ?_ | refine nThen ?_ | refine nBlk ?_ | refine wp_skip ?_ | refine wp_block ?_ | refine wp_ret ?_ | refine rThen ?_ | refine rBlk ?_
  have hs2 := TL.below hs hB
  have hu2 := TM.below hu hB
  have ht2 : (Ty.tab 87 seed L).p w2 (.agg #[.int .u64 (seed : Int), s]) := ⟨s, rfl, hs2⟩
  refine wp_region_lit ?_
  refine' tlOp hF rfl rfl rfl ?_ ?_
  rotate_left
  · first | exact cMove rfl rfl | exact cFldS46 rfl (.t rfl) | exact cLoadU64 rfl (.t rfl) | exact cFldL46 rfl (.t rfl) | exact cRowOf46 rfl (.t rfl) | exact cLenH rfl (.l rfl (TL.below hs hB)) (Ty.sl_isSl _ _ _) Try.underlying39 | exact cCallR3 rfl (.t rfl) (.t rfl) (.l rfl (TM.below hu hB)) o1 (tabE_olds _ _ _ _)
  intro a w5_0 hF hb
  replace hB := hB.trans (hb.mono hB.size)
  refine' tlOp hF rfl rfl rfl ?_ ?_
  rotate_left
  · first | exact cMove rfl rfl | exact cFldS46 rfl (.t rfl) | exact cLoadU64 rfl (.t rfl) | exact cFldL46 rfl (.t rfl) | exact cRowOf46 rfl (.t rfl) | exact cLenH rfl (.l rfl (TL.below hs hB)) (Ty.sl_isSl _ _ _) Try.underlying39 | exact cCallR3 rfl (.t rfl) (.t rfl) (.l rfl (TM.below hu hB)) o1 (tabE_olds _ _ _ _)
  intro a w5_1 hF hb
  replace hB := hB.trans (hb.mono hB.size)
  refine' tlOp hF rfl rfl rfl ?_ ?_
  rotate_left
  · first | exact cMove rfl rfl | exact cFldS46 rfl (.t rfl) | exact cLoadU64 rfl (.t rfl) | exact cFldL46 rfl (.t rfl) | exact cRowOf46 rfl (.t rfl) | exact cLenH rfl (.l rfl (TL.below hs hB)) (Ty.sl_isSl _ _ _) Try.underlying39 | exact cCallR3 rfl (.t rfl) (.t rfl) (.l rfl (TM.below hu hB)) o1 (tabE_olds _ _ _ _)
  intro a w5_2 hF hb
  replace hB := hB.trans (hb.mono hB.size)
  refine' tlOp hF rfl rfl rfl ?_ ?_
  rotate_left
  · first | exact cMove rfl rfl | exact cFldS46 rfl (.t rfl) | exact cLoadU64 rfl (.t rfl) | exact cFldL46 rfl (.t rfl) | exact cRowOf46 rfl (.t rfl) | exact cLenH rfl (.l rfl (TL.below hs hB)) (Ty.sl_isSl _ _ _) Try.underlying39 | exact cCallR3 rfl (.t rfl) (.t rfl) (.l rfl (TM.below hu hB)) o1 (tabE_olds _ _ _ _)
  intro a w5_3 hF hb
  replace hB := hB.trans (hb.mono hB.size)
  refine' tlOp hF rfl rfl rfl ?_ ?_
  rotate_left
  · first | exact cMove rfl rfl | exact cFldS46 rfl (.t rfl) | exact cLoadU64 rfl (.t rfl) | exact cFldL46 rfl (.t rfl) | exact cRowOf46 rfl (.t rfl) | exact cLenH rfl (.l rfl (TL.below hs hB)) (Ty.sl_isSl _ _ _) Try.underlying39 | exact cCallR3 rfl (.t rfl) (.t rfl) (.l rfl (TM.below hu hB)) o1 (tabE_olds _ _ _ _)
  intro a w5_4 hF hb
  replace hB := hB.trans (hb.mono hB.size)
  refine' tlOp hF rfl rfl rfl ?_ ?_
  rotate_left
  · first | exact cMove rfl rfl | exact cFldS46 rfl (.t rfl) | exact cLoadU64 rfl (.t rfl) | exact cFldL46 rfl (.t rfl) | exact cRowOf46 rfl (.t rfl) | exact cLenH rfl (.l rfl (TL.below hs hB)) (Ty.sl_isSl _ _ _) Try.underlying39 | exact cCallR3 rfl (.t rfl) (.t rfl) (.l rfl (TM.below hu hB)) o1 (tabE_olds _ _ _ _)
  intro a w5_5 hF hb
  replace hB := hB.trans (hb.mono hB.size)
  refine' tlOp hF rfl rfl rfl ?_ ?_
  rotate_left
  · first | exact cMove rfl rfl | exact cFldS46 rfl (.t rfl) | exact cLoadU64 rfl (.t rfl) | exact cFldL46 rfl (.t rfl) | exact cRowOf46 rfl (.t rfl) | exact cLenH rfl (.l rfl (TL.below hs hB)) (Ty.sl_isSl _ _ _) Try.underlying39 | exact cCallR3 rfl (.t rfl) (.t rfl) (.l rfl (TM.below hu hB)) o1 (tabE_olds _ _ _ _)
  intro a w5_6 hF hb
  replace hB := hB.trans (hb.mono hB.size)
  refine' tlOp hF rfl rfl rfl ?_ ?_
  rotate_left
  · first | exact cMove rfl rfl | exact cFldS46 rfl (.t rfl) | exact cLoadU64 rfl (.t rfl) | exact cFldL46 rfl (.t rfl) | exact cRowOf46 rfl (.t rfl) | exact cLenH rfl (.l rfl (TL.below hs hB)) (Ty.sl_isSl _ _ _) Try.underlying39 | exact cCallR3 rfl (.t rfl) (.t rfl) (.l rfl (TM.below hu hB)) o1 (tabE_olds _ _ _ _)
  intro a w5_7 hF hb
  replace hB := hB.trans (hb.mono hB.size)
  refine' tlOp hF rfl rfl rfl ?_ ?_
  rotate_left
  · exact cExtT rfl rfl
  intro a w5_t hF hb
  replace hB := hB.trans (hb.mono hB.size)
  refine' tlOp hF rfl rfl rfl ?_ ?_
  rotate_left
  · exact cExtE rfl rfl
  intro a w5_e hF hb
  replace hB := hB.trans (hb.mono hB.size)
  refine tlNewTab hF rfl rfl rfl (by decide) rfl (run_alloc_i infoT46) rfl rfl rfl rfl tabO_tab sizeT46 fun a w5_n hF hb => ?_
  replace hB := hB.trans (hb.mono hB.size)
  refine' tlOp hF rfl rfl rfl ?_ ?_
  rotate_left
  · exact cAssign rfl rfl
  intro a w5 hF hb
  replace hB := hB.trans (hb.mono hB.size)
  try (refine wpList_nil ?_)
  repeat with_reducible first | refine wp_seq ?_ | refine nThen ?_ | refine nBlk ?_ | refine wp_skip ?_ | refine wp_block ?_ | refine wp_ret ?_ | refine rThen ?_ | refine rBlk ?_
  refine wp_region_lit ?_
  refine' tlOp hF rfl rfl rfl ?_ ?_
  rotate_left
  · first | exact cMove rfl rfl | exact cLoadT46 rfl (.t rfl) | exact cLoadTab46 rfl (.t rfl) | exact cCallR2 rfl (Has.l (τ := Ty.tab 87 seed L) rfl ⟨s, rfl, TL.below hs hB⟩) (.t rfl) m1 (tabE_olds _ _ _ _)
  intro a w6_0 hF hb
  replace hB := hB.trans (hb.mono hB.size)
  refine' tlOp hF rfl rfl rfl ?_ ?_
  rotate_left
  · first | exact cMove rfl rfl | exact cLoadT46 rfl (.t rfl) | exact cLoadTab46 rfl (.t rfl) | exact cCallR2 rfl (Has.l (τ := Ty.tab 87 seed L) rfl ⟨s, rfl, TL.below hs hB⟩) (.t rfl) m1 (tabE_olds _ _ _ _)
  intro a w6_1 hF hb
  replace hB := hB.trans (hb.mono hB.size)
  refine' tlOp hF rfl rfl rfl ?_ ?_
  rotate_left
  · first | exact cMove rfl rfl | exact cLoadT46 rfl (.t rfl) | exact cLoadTab46 rfl (.t rfl) | exact cCallR2 rfl (Has.l (τ := Ty.tab 87 seed L) rfl ⟨s, rfl, TL.below hs hB⟩) (.t rfl) m1 (tabE_olds _ _ _ _)
  intro a w6_2 hF hb
  replace hB := hB.trans (hb.mono hB.size)
  refine' tlOp hF rfl rfl rfl ?_ ?_
  rotate_left
  · first | exact cMove rfl rfl | exact cLoadT46 rfl (.t rfl) | exact cLoadTab46 rfl (.t rfl) | exact cCallR2 rfl (Has.l (τ := Ty.tab 87 seed L) rfl ⟨s, rfl, TL.below hs hB⟩) (.t rfl) m1 (tabE_olds _ _ _ _)
  intro a w6_3 hF hb
  replace hB := hB.trans (hb.mono hB.size)
  refine' tlOp hF rfl rfl rfl ?_ ?_
  rotate_left
  · exact cExtT rfl rfl
  intro a w6_t hF hb
  replace hB := hB.trans (hb.mono hB.size)
  refine' tlOp hF rfl rfl rfl ?_ ?_
  rotate_left
  · exact cExtE rfl rfl
  intro a w6_e hF hb
  replace hB := hB.trans (hb.mono hB.size)
  refine tlNewTab hF rfl rfl rfl (by decide) rfl (run_alloc_i infoT46) rfl rfl rfl rfl tabO_tab sizeT46 fun a w6_n hF hb => ?_
  replace hB := hB.trans (hb.mono hB.size)
  refine' tlOp hF rfl rfl rfl ?_ ?_
  rotate_left
  · exact cAssign rfl rfl
  intro a w6 hF hb
  replace hB := hB.trans (hb.mono hB.size)
  try (refine wpList_nil ?_)
  repeat with_reducible first | refine wp_seq ?_ | refine nThen ?_ | refine nBlk ?_ | refine wp_skip ?_ | refine wp_block ?_ | refine wp_ret ?_ | refine rThen ?_ | refine rBlk ?_
  refine wp_region_lit ?_
  refine' tlOp hF rfl rfl rfl ?_ ?_
  rotate_left
  · first | exact cMove rfl rfl | exact cLoadTab46 rfl (.t rfl) | exact cCall1 rfl rfl hAll
  intro a w7_0 hF hb
  replace hB := hB.trans (hb.mono hB.size)
  refine' tlOp hF rfl rfl rfl ?_ ?_
  rotate_left
  · first | exact cMove rfl rfl | exact cLoadTab46 rfl (.t rfl) | exact cCall1 rfl rfl hAll
  intro a w7_1 hF hb
  replace hB := hB.trans (hb.mono hB.size)
  refine' tlOp hF rfl rfl rfl ?_ ?_
  rotate_left
  · first | exact cMove rfl rfl | exact cLoadTab46 rfl (.t rfl) | exact cCall1 rfl rfl hAll
  intro a w7_2 hF hb
  replace hB := hB.trans (hb.mono hB.size)
  refine' tlOp hF rfl rfl rfl ?_ ?_
  rotate_left
  · exact cExtract rfl rfl rfl
  intro a w7_t hF hb
  replace hB := hB.trans (hb.mono hB.size)
  refine' tlOp hF rfl rfl rfl ?_ ?_
  rotate_left
  · exact cExtract rfl rfl rfl
  intro a w7_e hF hb
  replace hB := hB.trans (hb.mono hB.size)
  refine tlNewRes hF rfl rfl rfl (by decide) rfl rfl rfl rfl rfl fun a w7_n hF hb => ?_
  replace hB := hB.trans (hb.mono hB.size)
  refine' tlOp hF rfl rfl rfl ?_ ?_
  rotate_left
  · exact cAssign rfl rfl
  intro a w7 hF hb
  replace hB := hB.trans (hb.mono hB.size)
  try (refine wpList_nil ?_)
  repeat with_reducible first | refine wp_seq ?_ | refine nThen ?_ | refine nBlk ?_ | refine wp_skip ?_ | refine wp_block ?_ | refine wp_ret ?_ | refine rThen ?_ | refine rBlk ?_
  obtain ⟨v11, ⟨p, q, s', hat, r1, r2, r3⟩, hF⟩ := hF.open (s := 11) rfl
  have hu7 := TM.below hu hB
  clear r3 ht2 hs2 hu2
  repeat with_reducible first | refine wp_seq ?_ | refine nThen ?_ | refine nBlk ?_ | refine wp_skip ?_ | refine wp_block ?_ | refine wp_ret ?_ | refine rThen ?_ | refine rBlk ?_
  by_cases h0 : en = 0
  rotate_left
  · rw [if_neg h0]
    rw [if_neg (show ¬ en = 0 from h0), if_neg (show ¬ en = 0 from h0)]
    refine' reg_all hF ?_ mixed (by kernel_rfl) ?_
    rotate_left
    · repeat (first
          | exact Line.nil
          | (refine' Line.cons rfl (.no rfl rfl rfl rfl rfl rfl) ?_; rotate_left)
          | ((first | refine' Line.cons rfl (.run rfl rfl ?_) ?_ | refine' Line.cons rfl (.yes rfl rfl rfl rfl ?_) ?_)
             any_goals (first | exact cMove rfl rfl | exact cAssign rfl rfl | exact cNot rfl rfl | exact OpOk.b (c := true) (cNeq rfl rfl rfl) (by rw [decide_eq_false h0]; rfl) | exact cPickT rfl rfl rfl | exact cPickF rfl rfl rfl | exact cGtr rfl rfl rfl | exact cNeq rfl rfl rfl | exact cExtract rfl rfl rfl)
             rotate_left))
    intro a w8 hF hb hN
    have hBs := hB.size
    replace hB := hB.trans (hb.mono hB.size)
    dsimp only [ext, Option.getD] at hF
    repeat with_reducible first | refine wp_seq ?_ | refine nThen ?_ | refine nBlk ?_ | refine wp_skip ?_ | refine wp_block ?_ | refine wp_ret ?_ | refine rThen ?_ | refine rBlk ?_
    refine cond_t hF rfl ?_
    repeat with_reducible first | refine wp_seq ?_ | refine nThen ?_ | refine nBlk ?_ | refine wp_skip ?_ | refine wp_block ?_ | refine wp_ret ?_ | refine rThen ?_ | refine rBlk ?_
    refine' reg_all hF ?_ mixed (by kernel_rfl) ?_
    rotate_left
    · repeat (first
          | exact Line.nil
          | (refine' Line.cons rfl (.no rfl rfl rfl rfl rfl rfl) ?_; rotate_left)
          | ((first | refine' Line.cons rfl (.run rfl rfl ?_) ?_ | refine' Line.cons rfl (.yes rfl rfl rfl rfl ?_) ?_)
             any_goals (first | exact cMove rfl rfl | exact cAssign rfl rfl | exact cNot rfl rfl | exact cPickT rfl rfl rfl | exact cPickF rfl rfl rfl | exact cGtr rfl rfl rfl | exact cNeq rfl rfl rfl | exact cExtract rfl rfl rfl)
             rotate_left))
    intro a w9 hF hb hN
    have hBs := hB.size
    replace hB := hB.trans (hb.mono hB.size)
    dsimp only [ext, Option.getD] at hF
    repeat with_reducible first | refine wp_seq ?_ | refine nThen ?_ | refine nBlk ?_ | refine wp_skip ?_ | refine wp_block ?_ | refine wp_ret ?_ | refine rThen ?_ | refine rBlk ?_
    refine ret3 hF rfl rfl rfl rfl fun a b c ha hb hc => ?_
    exact ⟨_, rfl, ⟨[a, b, c], rfl, by rw [show a = nilS from ha]; exact sums_nil _, by rw [show b = nilS from hb]; exact sums_nil _, hc, trivial⟩, hB⟩
  rw [if_pos h0]
  refine' reg_all hF ?_ mixed (by kernel_rfl) ?_
  rotate_left
  · repeat (first
        | exact Line.nil
        | (refine' Line.cons rfl (.no rfl rfl rfl rfl rfl rfl) ?_; rotate_left)
        | ((first | refine' Line.cons rfl (.run rfl rfl ?_) ?_ | refine' Line.cons rfl (.yes rfl rfl rfl rfl ?_) ?_)
           any_goals (first | exact cMove rfl rfl | exact cAssign rfl rfl | exact cNot rfl rfl | exact OpOk.b (c := false) (cNeq rfl rfl rfl) (by rw [decide_eq_true h0]; rfl) | exact cPickT rfl rfl rfl | exact cPickF rfl rfl rfl | exact cGtr rfl rfl rfl | exact cNeq rfl rfl rfl | exact cExtract rfl rfl rfl)
           rotate_left))
  intro a w8 hF hb hN
  have hBs := hB.size
  replace hB := hB.trans (hb.mono hB.size)
  dsimp only [ext, Option.getD] at hF
  repeat with_reducible first | refine wp_seq ?_ | refine nThen ?_ | refine nBlk ?_ | refine wp_skip ?_ | refine wp_block ?_ | refine wp_ret ?_ | refine rThen ?_ | refine rBlk ?_
  refine cond_f hF rfl ?_
  repeat with_reducible first | refine wp_seq ?_ | refine nThen ?_ | refine nBlk ?_ | refine wp_skip ?_ | refine wp_block ?_ | refine wp_ret ?_ | refine rThen ?_ | refine rBlk ?_
  have hat8 := (Ty.at_ ResT [p, q, .int .u64 (sd : Int), s']).below hat hb
  have r18 := (Ty.sums 34 P).below r1 hb
  have r28 := (Ty.sums 34 K).below r2 hb
  have hu8 := TM.below hu7 hb
  have e1 : decide ((0 : Int) < ((minusL K M).length : Int)) = decide (0 < (minusL K M).length) := decide_eq_decide.2 (by omega)
  have e2 : decide ((0 : Int) < ((bothL P M).length : Int)) = decide (0 < (bothL P M).length) := decide_eq_decide.2 (by omega)
  refine' reg_all hF ?_ mixed (by kernel_rfl) ?_
  rotate_left
  · repeat (first
        | exact Line.nil
        | (refine' Line.cons rfl (.no rfl rfl rfl rfl rfl rfl) ?_; rotate_left)
        | ((first | refine' Line.cons rfl (.run rfl rfl ?_) ?_ | refine' Line.cons rfl (.yes rfl rfl rfl rfl ?_) ?_)
           any_goals (first | exact cMove rfl rfl | exact cAssign rfl rfl | exact cNot rfl rfl | exact cResM rfl (.l rfl hat8) | exact cLoad1 (u := q) rfl (.t rfl) (pts_at _ _) Try.underlying25 rfl | exact cCallS2 rfl (.l rfl r28) (.l rfl hu8) hmn | exact cLenH rfl (.t rfl) (Ty.seg_isSl _ _ _ _ _) Try.underlying25 | exact OpOk.b (cGtr rfl rfl rfl) e1 | exact cPickT rfl rfl rfl | exact cPickF rfl rfl rfl | exact cGtr rfl rfl rfl | exact cNeq rfl rfl rfl | exact cExtract rfl rfl rfl)
           rotate_left))
  intro a w9 hF hb hN
  have hBs := hB.size
  replace hB := hB.trans (hb.mono hB.size)
  dsimp only [ext, Option.getD] at hF
  repeat with_reducible first | refine wp_seq ?_ | refine nThen ?_ | refine nBlk ?_ | refine wp_skip ?_ | refine wp_block ?_ | refine wp_ret ?_ | refine rThen ?_ | refine rBlk ?_
  have hat9 := (Ty.at_ ResT [p, q, .int .u64 (sd : Int), s']).below hat8 hb
  have r19 := (Ty.sums 34 P).below r18 hb
  have r29 := (Ty.sums 34 K).below r28 hb
  have hu9 := TM.below hu8 hb
  have hB9 := hB
  replace hB := Below.refl w9.heap.size w9
  refine wp_mono (Q := fun e a w' => e = .normal ∧ Fr 63 [(11, Ty.ex v11), (46, Ty.ex (.bool (decide (0 < (minusL K M).length) || decide (0 < (bothL P M).length))))] a w' ∧ Below w9.heap.size w9 w') ?_ ?_
  · cases hA : decide (0 < (minusL K M).length) with
    | true =>
      rw [hA] at hF
      rw [Bool.true_or]
      refine cond_t hF rfl ?_
      repeat with_reducible first | refine wp_seq ?_ | refine nThen ?_ | refine nBlk ?_ | refine wp_skip ?_ | refine wp_block ?_ | refine wp_ret ?_ | refine rThen ?_ | refine rBlk ?_
      exact ⟨rfl, hF.keep [11, 46], hB⟩
    | false =>
      rw [hA] at hF
      rw [Bool.false_or]
      refine cond_f hF rfl ?_
      repeat with_reducible first | refine wp_seq ?_ | refine nThen ?_ | refine nBlk ?_ | refine wp_skip ?_ | refine wp_block ?_ | refine wp_ret ?_ | refine rThen ?_ | refine rBlk ?_
      refine' reg_all hF ?_ mixed (by kernel_rfl) ?_
      rotate_left
      · repeat (first
            | exact Line.nil
            | (refine' Line.cons rfl (.no rfl rfl rfl rfl rfl rfl) ?_; rotate_left)
            | ((first | refine' Line.cons rfl (.run rfl rfl ?_) ?_ | refine' Line.cons rfl (.yes rfl rfl rfl rfl ?_) ?_)
               any_goals (first | exact cMove rfl rfl | exact cAssign rfl rfl | exact cNot rfl rfl | exact cResP rfl (.l rfl hat9) | exact cLoad1 (u := p) rfl (.t rfl) (pts_at _ _) Try.underlying25 rfl | exact cCallS2 rfl (.l rfl r19) (.l rfl hu9) hbt | exact cLenH rfl (.t rfl) (Ty.seg_isSl _ _ _ _ _) Try.underlying25 | exact OpOk.b (cGtr rfl rfl rfl) e2 | exact cPickT rfl rfl rfl | exact cPickF rfl rfl rfl | exact cGtr rfl rfl rfl | exact cNeq rfl rfl rfl | exact cExtract rfl rfl rfl)
               rotate_left))
      intro a w10 hF hb hN
      have hBs := hB.size
      replace hB := hB.trans (hb.mono hB.size)
      dsimp only [ext, Option.getD] at hF
      repeat with_reducible first | refine wp_seq ?_ | refine nThen ?_ | refine nBlk ?_ | refine wp_skip ?_ | refine wp_block ?_ | refine wp_ret ?_ | refine rThen ?_ | refine rBlk ?_
      exact ⟨rfl, hF.keep [11, 46], hB⟩
  clear hF hB
  rintro e a w10 ⟨rfl, hF, hb⟩
  have hB := hB9.trans (hb.mono hB9.size)
  replace hat9 := (Ty.at_ ResT [p, q, .int .u64 (sd : Int), s']).below hat9 hb
  replace r19 := (Ty.sums 34 P).below r19 hb
  replace r29 := (Ty.sums 34 K).below r29 hb
  repeat with_reducible first | refine wp_seq ?_ | refine nThen ?_ | refine nBlk ?_ | refine wp_skip ?_ | refine wp_block ?_ | refine wp_ret ?_ | refine rThen ?_ | refine rBlk ?_
  cases hbad : (decide (0 < (minusL K M).length) || decide (0 < (bothL P M).length)) with
  | true =>
    rw [hbad] at hF
    refine cond_t hF rfl ?_
    repeat with_reducible first | refine wp_seq ?_ | refine nThen ?_ | refine nBlk ?_ | refine wp_skip ?_ | refine wp_block ?_ | refine wp_ret ?_ | refine rThen ?_ | refine rBlk ?_
    refine' reg_all hF ?_ mixed (by kernel_rfl) ?_
    rotate_left
    · repeat (first
          | exact Line.nil
          | (refine' Line.cons rfl (.no rfl rfl rfl rfl rfl rfl) ?_; rotate_left)
          | ((first | refine' Line.cons rfl (.run rfl rfl ?_) ?_ | refine' Line.cons rfl (.yes rfl rfl rfl rfl ?_) ?_)
             any_goals (first | exact cMove rfl rfl | exact cAssign rfl rfl | exact cNot rfl rfl | exact cPickT rfl rfl rfl | exact cPickF rfl rfl rfl | exact cGtr rfl rfl rfl | exact cNeq rfl rfl rfl | exact cExtract rfl rfl rfl)
             rotate_left))
    intro a w11 hF hb hN
    have hBs := hB.size
    replace hB := hB.trans (hb.mono hB.size)
    dsimp only [ext, Option.getD] at hF
    repeat with_reducible first | refine wp_seq ?_ | refine nThen ?_ | refine nBlk ?_ | refine wp_skip ?_ | refine wp_block ?_ | refine wp_ret ?_ | refine rThen ?_ | refine rBlk ?_
    refine ret3 hF rfl rfl rfl rfl fun a b c ha hb hc => ?_
    exact ⟨_, rfl, ⟨[a, b, c], rfl, by rw [show a = nilS from ha]; exact sums_nil _, by rw [show b = nilS from hb]; exact sums_nil _, hc, trivial⟩, hB⟩
  | false =>
    rw [hbad] at hF
    refine cond_f hF rfl ?_
    repeat with_reducible first | refine wp_seq ?_ | refine nThen ?_ | refine nBlk ?_ | refine wp_skip ?_ | refine wp_block ?_ | refine wp_ret ?_ | refine rThen ?_ | refine rBlk ?_
    refine' reg_all hF ?_ mixed (by kernel_rfl) ?_
    rotate_left
    · repeat (first
          | exact Line.nil
          | (refine' Line.cons rfl (.no rfl rfl rfl rfl rfl rfl) ?_; rotate_left)
          | ((first | refine' Line.cons rfl (.run rfl rfl ?_) ?_ | refine' Line.cons rfl (.yes rfl rfl rfl rfl ?_) ?_)
             any_goals (first | exact cMove rfl rfl | exact cAssign rfl rfl | exact cNot rfl rfl | exact cResP rfl (.l rfl hat9) | exact cResM rfl (.l rfl hat9) | exact cLoad1 (u := p) rfl (.t rfl) (pts_at _ _) Try.underlying25 rfl | exact cLoad1 (u := q) rfl (.t rfl) (pts_at _ _) Try.underlying25 rfl | exact cPickT rfl rfl rfl | exact cPickF rfl rfl rfl | exact cGtr rfl rfl rfl | exact cNeq rfl rfl rfl | exact cExtract rfl rfl rfl)
             rotate_left))
    intro a w11 hF hb hN
    have hBs := hB.size
    replace hB := hB.trans (hb.mono hB.size)
    dsimp only [ext, Option.getD] at hF
    repeat with_reducible first | refine wp_seq ?_ | refine nThen ?_ | refine nBlk ?_ | refine wp_skip ?_ | refine wp_block ?_ | refine wp_ret ?_ | refine rThen ?_ | refine rBlk ?_
    refine ret3 hF rfl rfl rfl rfl fun a b c ha hb' hc => ?_
    exact ⟨_, rfl, ⟨[a, b, c], rfl, by rw [show a = p from ha]; exact (Ty.sums 34 P).below r19 hb, by rw [show b = q from hb']; exact (Ty.sums 34 K).below r29 hb, hc, trivial⟩, hB⟩
end Go.Proofs.Ytmlbkcpmgcjblaa

/- Layer 16 by types: awake, PeelSelf, PeelOne, PeelRoom. -/
namespace Go.Proofs.Ytmlbkcpmgcjblaa
open Go.RowKit

theorem few12 : ¬ fewS 1 = fewS 2 := fun h => absurd (congrArg Sm.l h) (by decide +kernel)
theorem few13 : ¬ fewS 1 = fewS 3 := fun h => absurd (congrArg Sm.l h) (by decide +kernel)
theorem few23 : ¬ fewS 2 = fewS 3 := fun h => absurd (congrArg Sm.l h) (by decide +kernel)
theorem few_place : (isAt 5 30 6 (fewS 1) != isAt 5 30 6 (fewS 3)) = true := by decide +kernel
/-- Two and two, one of them in both. -/
theorem less_two {a b c : Sm} (hab : ¬ a = b) (hac : ¬ a = c) (hbc : ¬ b = c) : minusL (setL [a, b]) (setL [b, c]) = [a] ∧ minusL (setL [b, c]) (setL [a, b]) = [c] := by
  constructor
  · refine srt_ext (minusL_srt _ _) (s_one _) fun x => ?_
    rw [minusL_mem, setL_mem, setL_mem]
    simp only [List.mem_cons, List.not_mem_nil, or_false, not_or]
    constructor
    · rintro ⟨h1 | h1, h2, h3⟩
      · exact h1
      · exact absurd h1 h2
    · rintro rfl
      exact ⟨.inl rfl, hab, hac⟩
  · refine srt_ext (minusL_srt _ _) (s_one _) fun x => ?_
    rw [minusL_mem, setL_mem, setL_mem]
    simp only [List.mem_cons, List.not_mem_nil, or_false, not_or]
    constructor
    · rintro ⟨h1 | h1, h2, h3⟩
      · exact absurd h1 h3
      · exact h1
    · rintro rfl
      exact ⟨.inr rfl, fun h => hac h.symm, fun h => hbc h.symm⟩
theorem fewL_one (z : Int) : fewL [z] = [fewS z] := setL_self (s_one _)
theorem fewL_srt (l : List Int) : srt (fewL l) := setL_srt _
theorem same_one (x : Sm) : sameL [x] [x] = true := sameL_true (s_one _) (by simp) rfl
theorem g30 : goodN 30 = true := by decide
set_option maxRecDepth 100000 in
set_option maxHeartbeats 2000000 in
theorem awake16_ty : Fn0 Try.prog 58 (Ty.ex (.bool true)) := by
  refine ⟨fun args w => by kernel_rfl, fun w => ?_⟩
  have f12 := few16_ty [1, 2] (Ty.sl 3 2 [ivz 1, ivz 2]) (reads_sl _ _ _) (by simp)
  have f23 := few16_ty [2, 3] (Ty.sl 3 2 [ivz 2, ivz 3]) (reads_sl _ _ _) (by simp)
  have f1 := few16_ty [1] (Ty.sl 3 1 [ivz 1]) (reads_sl _ _ _) (by simp)
  have f3 := few16_ty [3] (Ty.sl 3 1 [ivz 3]) (reads_sl _ _ _) (by simp)
  rw [fewL_one] at f1 f3
  obtain ⟨hl1, hl2⟩ := less_two few12 few13 few23
  have l12 := fewL_len [1, 2]
  have l23 := fewL_len [2, 3]
  have s12 := fewL_srt [1, 2]
  have s23 := fewL_srt [2, 3]
  obtain ⟨_, e0, e1, e2⟩ := two16 (seed := 5) (n := 30) (X := fewL [1, 2]) (Y := fewL [2, 3]) g30 s23 (by simp at l23; omega) hl1 hl2 (j := 6) (by decide) few_place
  have o1 := tof_ty 5 30 (fewL [1, 2]) (by simp at l12; omega) (by omega)
  rw [newE_good g30, newS_good g30] at o1
  have hO := own_ty 5 (ofL 5 30 (fewL [1, 2])) (fewL [2, 3]) (by simp at l23; omega) (by omega)
  rw [e0, e1, e2] at hO
  have m1 := same_ty [fewS 1] [fewS 1] (by simp) (by simp)
  have m3 := same_ty [fewS 3] [fewS 3] (by simp) (by simp)
  rw [same_one] at m1 m3
  clear hl1 hl2 l12 l23 s12 s23 e0 e1 e2
  generalize ofL 5 30 (fewL [1, 2]) = A at *
  generalize fewL [1, 2] = X at *
  generalize fewL [2, 3] = Y at *
  generalize fewS 1 = x1 at *
  generalize fewS 3 = x3 at *
  refine enter_ty 38 [] Try.func58 rfl (by kernel_rfl) trivial fun a hF => ?_
  have hB := Below.refl w.heap.size w
  repeat with_reducible first | refine wp_seq ?_ | refine nThen ?_ | refine wp_ret ?_
  refine' reg_all hF ?_ mixed (by kernel_rfl) ?_
  rotate_left
  · repeat (first
        | exact Line.nil
        | ((first | refine' Line.cons rfl (.run rfl rfl ?_) ?_ | refine' Line.cons rfl (.yes rfl rfl rfl rfl ?_) ?_)
           any_goals (first | exact cMove rfl rfl | exact cAssign rfl rfl | exact cPickT rfl rfl rfl | exact cEql rfl rfl rfl | exact cExtract rfl rfl rfl)
           rotate_left))
  intro a w1 hF hb hN
  have hBs := hB.size
  replace hB := hB.trans (hb.mono hB.size)
  dsimp only [ext, Option.getD] at hF
  repeat with_reducible first | refine wp_seq ?_ | refine nThen ?_ | refine wp_ret ?_
  refine' reg_all hF ?_ mixed (by kernel_rfl) ?_
  rotate_left
  · repeat (first
        | exact Line.nil
        | ((first | refine' Line.cons rfl (.run rfl rfl ?_) ?_ | refine' Line.cons rfl (.yes rfl rfl rfl rfl ?_) ?_)
           any_goals (first | exact cMove rfl rfl | exact cAssign rfl rfl | exact cBuildV (vs := [ivz 1, ivz 2]) rfl (parts2v rfl rfl rfl) Try.underlying66 infoInt rfl (by simp [Value.cells, ivz]) (by decide) (by simp [maxLen]) | exact cBuildV (vs := [ivz 2, ivz 3]) rfl (parts2v rfl rfl rfl) Try.underlying66 infoInt rfl (by simp [Value.cells, ivz]) (by decide) (by simp [maxLen]) | exact cCallS1 rfl (.t rfl) f12 | exact cCallS1 rfl (.t rfl) f23 | exact cPickT rfl rfl rfl | exact cEql rfl rfl rfl | exact cExtract rfl rfl rfl)
           rotate_left))
  intro a w2 hF hb hN
  have hBs := hB.size
  replace hB := hB.trans (hb.mono hB.size)
  dsimp only [ext, Option.getD] at hF
  repeat with_reducible first | refine wp_seq ?_ | refine nThen ?_ | refine wp_ret ?_
  refine wp_region_lit ?_
  refine' tlOp hF rfl rfl rfl ?_ ?_
  rotate_left
  · first | exact cMove rfl rfl | exact cCallR3 rfl (.t rfl) (.t rfl) (Has.c (.t rfl) seg_sl) o1 (tabE_olds _ _ _ _)
  intro a w3_0 hF hb
  replace hB := hB.trans (hb.mono hB.size)
  refine' tlOp hF rfl rfl rfl ?_ ?_
  rotate_left
  · first | exact cMove rfl rfl | exact cCallR3 rfl (.t rfl) (.t rfl) (Has.c (.t rfl) seg_sl) o1 (tabE_olds _ _ _ _)
  intro a w3_1 hF hb
  replace hB := hB.trans (hb.mono hB.size)
  refine' tlOp hF rfl rfl rfl ?_ ?_
  rotate_left
  · first | exact cMove rfl rfl | exact cCallR3 rfl (.t rfl) (.t rfl) (Has.c (.t rfl) seg_sl) o1 (tabE_olds _ _ _ _)
  intro a w3_2 hF hb
  replace hB := hB.trans (hb.mono hB.size)
  refine' tlOp hF rfl rfl rfl ?_ ?_
  rotate_left
  · exact cExtT rfl rfl
  intro a w3_t hF hb
  replace hB := hB.trans (hb.mono hB.size)
  refine' tlOp hF rfl rfl rfl ?_ ?_
  rotate_left
  · exact cExtE rfl rfl
  intro a w3_e hF hb
  replace hB := hB.trans (hb.mono hB.size)
  refine tlNewTab hF rfl rfl rfl (by decide) rfl (run_alloc_i infoT46) rfl rfl rfl rfl tabO_tab sizeT46 fun a w3_n hF hb => ?_
  replace hB := hB.trans (hb.mono hB.size)
  refine' tlOp hF rfl rfl rfl ?_ ?_
  rotate_left
  · exact cAssign rfl rfl
  intro a w3 hF hb
  replace hB := hB.trans (hb.mono hB.size)
  try (refine wpList_nil ?_)
  repeat with_reducible first | refine wp_seq ?_ | refine nThen ?_ | refine wp_ret ?_
  refine' reg_all hF ?_ mixed (by kernel_rfl) ?_
  rotate_left
  · repeat (first
        | exact Line.nil
        | ((first | refine' Line.cons rfl (.run rfl rfl ?_) ?_ | refine' Line.cons rfl (.yes rfl rfl rfl rfl ?_) ?_)
           any_goals (first | exact cMove rfl rfl | exact cAssign rfl rfl | exact cLoadTab46 rfl (.t rfl) | exact cCallH2 rfl (.t rfl) (Has.c (.t rfl) seg_sl) hO | exact cPickT rfl rfl rfl | exact cEql rfl rfl rfl | exact cExtract rfl rfl rfl)
           rotate_left))
  intro a w4 hF hb hN
  have hBs := hB.size
  replace hB := hB.trans (hb.mono hB.size)
  dsimp only [ext, Option.getD] at hF
  repeat with_reducible first | refine wp_seq ?_ | refine nThen ?_ | refine wp_ret ?_
  refine' reg_all hF ?_ mixed (by kernel_rfl) ?_
  rotate_left
  · repeat (first
        | exact Line.nil
        | ((first | refine' Line.cons rfl (.run rfl rfl ?_) ?_ | refine' Line.cons rfl (.yes rfl rfl rfl rfl ?_) ?_)
           any_goals (first | exact cMove rfl rfl | exact cAssign rfl rfl | exact OpOk.b (c := true) (cEql rfl rfl rfl) rfl | exact cBuildV (vs := [ivz 1]) rfl (parts1v rfl rfl) Try.underlying66 infoInt rfl (by simp [Value.cells, ivz]) (by decide) (by simp [maxLen]) | exact cBuildV (vs := [ivz 3]) rfl (parts1v rfl rfl) Try.underlying66 infoInt rfl (by simp [Value.cells, ivz]) (by decide) (by simp [maxLen]) | exact cCallS1 rfl (.t rfl) f1 | exact cCallS1 rfl (.t rfl) f3 | exact cCallH2 rfl (.t rfl) (Has.c (.t rfl) seg_sl) m1 | exact cCallH2 rfl (.t rfl) (Has.c (.t rfl) seg_sl) m3 | exact cPickT rfl rfl rfl | exact cEql rfl rfl rfl | exact cExtract rfl rfl rfl)
           rotate_left))
  intro a w5 hF hb hN
  have hBs := hB.size
  replace hB := hB.trans (hb.mono hB.size)
  dsimp only [ext, Option.getD] at hF
  repeat with_reducible first | refine wp_seq ?_ | refine nThen ?_ | refine wp_ret ?_
  refine ret1 hF rfl rfl fun z hz => ?_
  exact ⟨z, rfl, hz, hB⟩
end Go.Proofs.Ytmlbkcpmgcjblaa

/- Layer 16 by types: a result's fields; PeelAll. -/
namespace Go.Proofs.Ytmlbkcpmgcjblaa
open Go.RowKit

/-- The address of a slice that is read. -/
def Ty.selS (t e : TypeId) (n : Nat) (xs : List Value) : Ty := ⟨fun w v => ∃ p, (Ty.at_ t [p]).p w v ∧ SlP w e p n xs, fun u => u == t || u == e, fun ⟨p, h1, h2⟩ k hA =>
  ⟨p, (Ty.at_ t _).st h1 k fun b hb hl => let ⟨cs, t', fr, k1, k2⟩ := hA b hb hl; ⟨cs, t', fr, k1, (Bool.or_eq_false_iff.1 k2).1⟩, (Ty.sl e n xs).st h2 k fun b hb hl => let ⟨cs, t', fr, k1, k2⟩ := hA b hb hl; ⟨cs, t', fr, k1, (Bool.or_eq_false_iff.1 k2).2⟩⟩⟩
section
variable {w0 : World} {Γ : Ctx} {o : Oper} {x : Operand} {P M : List Sm} {sd : Nat} {L : List Cl}
theorem cSelP (ho : o.op = .fieldAddr ResT x 0) (hx : Has w0 Γ x (Ty.resA P M sd L)) : OpOk Try.prog w0 Γ o (Ty.selS ResT 34 P.length (flat P)) :=
  .val fun a w hb hs => by
    obtain ⟨v, h1, p, q, s, ⟨g, off, cs, fr, rfl, h2, h3⟩, k1, k2, k3⟩ := hx.see hs (by simp [ho, Op.operands]) hb
    have hr := run_fieldAt (P := Try.prog) (i := 0) Try.underlying83 rfl sizeSL1 g off w
    refine ⟨.pointer (some ⟨g, off + 0, none⟩), ⟨p, ⟨g, off + 0, cs, fr, rfl, h2, fun j u hu => ?_⟩, k1⟩, ?_⟩
    · cases j with
      | zero => exact h3 0 u hu
      | succ j => simp at hu
    · unfold execOp
      simp [ho, h1, hr]
theorem cSelM (ho : o.op = .fieldAddr ResT x 1) (hx : Has w0 Γ x (Ty.resA P M sd L)) : OpOk Try.prog w0 Γ o (Ty.selS ResT 34 M.length (flat M)) :=
  .val fun a w hb hs => by
    obtain ⟨v, h1, p, q, s, ⟨g, off, cs, fr, rfl, h2, h3⟩, k1, k2, k3⟩ := hx.see hs (by simp [ho, Op.operands]) hb
    have hr := run_fieldAt (P := Try.prog) (i := 1) Try.underlying83 rfl sizeSL1 g off w
    refine ⟨.pointer (some ⟨g, off + 1, none⟩), ⟨q, ⟨g, off + 1, cs, fr, rfl, h2, fun j u hu => ?_⟩, k2⟩, ?_⟩
    · cases j with
      | zero => exact h3 1 u hu
      | succ j => simp at hu
    · unfold execOp
      simp [ho, h1, hr]
theorem cSelL (ho : o.op = .fieldAddr ResT x 2) (hx : Has w0 Γ x (Ty.resA P M sd L)) : OpOk Try.prog w0 Γ o (Ty.tabP ResT 87 sd L) :=
  .val fun a w hb hs => by
    obtain ⟨v, h1, p, q, s, ⟨g, off, cs, fr, rfl, h2, h3⟩, k1, k2, k3⟩ := hx.see hs (by simp [ho, Op.operands]) hb
    have hr := run_fieldAt (P := Try.prog) (i := 2) Try.underlying83 rfl sizeT46 g off w
    refine ⟨.pointer (some ⟨g, off + 2, none⟩), ⟨s, ⟨g, off + 2, cs, fr, rfl, h2, fun j u hu => ?_⟩, k3⟩, ?_⟩
    · have h := h3 (2 + j) u
      rw [← Nat.add_assoc] at h
      match j, hu with
      | 0, hu => exact h hu
      | 1, hu => exact h hu
      | j + 2, hu => simp at hu
    · unfold execOp
      simp [ho, h1, hr]
theorem cLoadSel {t e : TypeId} {n : Nat} {xs : List Value} (ho : o.op = .load 25 x) (hx : OpT Γ x (Ty.selS t e n xs)) : OpOk Try.prog w0 Γ o (Ty.sl e n xs) :=
  .val fun a w hb hs => by
    obtain ⟨v, h1, p, hat, hsl⟩ := hs x _ (by simp [ho, Op.operands]) hx
    obtain ⟨ad, rfl, h3⟩ := pts_at _ _ w v hat
    refine ⟨p, hsl, ?_⟩
    have h4 := run_loadVar_one (P := Try.prog) h3 Try.underlying25 rfl
    unfold execOp
    simp [ho, h1, Instr.loadAt, Instr.sureAddr, h4]
theorem cLoadTabR (ho : o.op = .load 41 x) (hx : OpT Γ x (Ty.tabP ResT 87 sd L)) : OpOk Try.prog w0 Γ o (Ty.tab 87 sd L) :=
  .val fun a w hb hs => by
    obtain ⟨v, h1, s, h2, h5⟩ := hs x _ (by simp [ho, Op.operands]) hx
    obtain ⟨ad, rfl, h3⟩ := pts_at _ _ w v h2
    refine ⟨.agg #[.int .u64 (sd : Int), s], ⟨s, rfl, h5⟩, ?_⟩
    have h4 := run_loadVar_rd (P := Try.prog) h3 Try.underlying41 rfl (by rw [sizeT46]; rfl)
    unfold execOp
    simp [ho, h1, Instr.loadAt, Instr.sureAddr, h4]
end
theorem ok_left {seed : Nat} {L : List Cl} (h : peelOk seed L = true) : allZ (resL seed L) = true ∧ (resL seed L).length = L.length ∧ resS seed L = seed ∧ goodN (L.length : Int) = true := by
  have hz := ok_zero h
  unfold peelOk at h
  simp only [Bool.and_eq_true] at h
  have e : resL seed L = (peelS seed L).L := by unfold resL; rw [h.1]; rfl
  rw [e]
  exact ⟨hz, Pst.run_len _ _ _, by unfold resS; rw [h.1]; rfl, h.1⟩
end Go.Proofs.Ytmlbkcpmgcjblaa

/- Layer 15 by types: TableOrder. -/
namespace Go.Proofs.Ytmlbkcpmgcjblaa
open Go.RowKit

theorem tblk_at {w : World} {g : Nat} {T : TypeId} {u s : Value} (h : Blk w g T #[u, s]) : (Ty.at_ T [u, s]).p w (.pointer (some ⟨g, 0, none⟩)) := ⟨g, 0, _, (0, 0), rfl, h, fun j u h => by simpa using h⟩
/-- The row begun elsewhere. -/
def turned (X : List Sm) (r : Nat) : List Sm := X.drop r ++ X.take r
section
variable {P : Program} {ops : Array Oper} {Q : Exit → Act → World → Prop} {N : Nat} {Γ : Ctx} {a : Act} {w : World} {o1 o2 : Oper} {rest : List Oper}
/-- A variable made, and a table stored there: the block is known. -/
theorem tlNewTabB {T e : TypeId} {p q : Nat} {seed : Nat} {L : List Cl} {τ : Ty} (hF : Fr N Γ a w) (h1 : o1.op = .alloc T) (hg1 : o1.guard = none) (hd1 : o1.dst = some p) (hp : p < N) (hpq : Nat.beq p q = false)
    (hz : ∀ w : World, (Instr.alloc T true (.tuple #[])).run P w = .ok (.pointer (some ⟨w.heap.size, 0, none⟩)) (w.alloc (.cells #[.int .u64 0, .slice none 0 0] T)))
    (h2 : o2.op = .store T (.tmp p) (.tmp q)) (hg2 : o2.guard = none) (hd2 : o2.dst = none) (hq : look Γ q = some τ) (hτ : ∀ w v, τ.p w v → (Ty.tab e seed L).p w v) (hi : (P.info? T).map (·.size) = some 2)
    (hk : ∀ a' w' s, Fr N ((p, Ty.ex (.pointer (some ⟨w.heap.size, 0, none⟩))) :: Γ) a' w' → Below w.heap.size w w' → Blk w' w.heap.size T #[.int .u64 (seed : Int), s] → (Ty.cls e L).p w' s → wpList P ops Q rest a' w') : wpList P ops Q (o1 :: o2 :: rest) a w := by
  obtain ⟨v, hv2, hFo⟩ := hF.open hq
  obtain ⟨s, rfl, hs⟩ := hτ _ _ hv2
  refine wpList_plain hg1 fun K hK => ?_
  unfold Oper.wp execOp
  simp only [h1, Sem.run_bind, hz, Result.andThen_ok, Sem.run_pure]
  refine hK _ _ ?_
  rw [hd1]
  have hb1 : Below w.heap.size w (w.alloc (.cells #[.int .u64 0, .slice none 0 0] T)) := ((Keeps.refl [] w).alloc _).below
  have hF1 : Fr N ((p, Ty.ex (.pointer (some ⟨w.heap.size, 0, none⟩))) :: (q, Ty.ex (.agg #[.int .u64 (seed : Int), s])) :: Γ) (a.put (some p) (.pointer (some ⟨w.heap.size, 0, none⟩))) (w.alloc (.cells #[.int .u64 0, .slice none 0 0] T)) := hFo.put hp hb1 rfl
  have hv3 := hF1.getEx (s := q) (v := .agg #[.int .u64 (seed : Int), s]) (by rw [look]; simp only [hpq, cond_false]; exact look_same _ _ _)
  refine tlStoreV (Δ := []) hF1 hg2 hd2 h2 (look_same _ _ _) hv3 (Blk.new w _ _) rfl (by rw [hi]; rfl) (sl_one hs _) (hF1.keep []) rfl ?_
  intro w' _ hb' hkx
  have hB := below_own hb1 hkx (by intro y hy; simp only [List.mem_singleton] at hy; omega)
  exact hk _ _ s (hF.put hp hB rfl) hB (by simpa [Value.cells] using hb') ((Ty.cls e L).below hs hB)
end
end Go.Proofs.Ytmlbkcpmgcjblaa

/- Layer 10 by types: the document's Of. -/
namespace Go.Proofs.Ytmlbkcpmgcjblaa
open Go.RowKit

end Go.Proofs.Ytmlbkcpmgcjblaa

/- Layer 15 by types: the document's Count and TableOf. -/
namespace Go.Proofs.Ytmlbkcpmgcjblaa
open Go.RowKit

end Go.Proofs.Ytmlbkcpmgcjblaa

/- Layer 15 by types: the document's TableOf. -/
namespace Go.Proofs.Ytmlbkcpmgcjblaa
open Go.RowKit

section
variable {P : Program} {ops : Array Oper} {Q : Exit → Act → World → Prop} {N : Nat} {Γ : Ctx} {a : Act} {w : World} {o1 o2 : Oper} {rest : List Oper}
end
end Go.Proofs.Ytmlbkcpmgcjblaa

/- Drawn regions walked through all their orders, by types: for small regions that store into what they make. -/
namespace Go.Proofs.Ytmlbkcpmgcjblaa
open Go.RowKit

/-- Without slot p. -/
def dropS (p : Nat) : Ctx → Ctx
  | [] => []
  | e :: Γ => bif Nat.beq e.1 p then dropS p Γ else e :: dropS p Γ
theorem dropS_look {p : Nat} : ∀ {Γ : Ctx} {s : Nat} {τ : Ty}, look (dropS p Γ) s = some τ → look Γ s = some τ
  | [], _, _, h => h
  | e :: Γ, s, τ, h => by
    unfold dropS at h
    cases hb : Nat.beq e.1 p with
    | true =>
      rw [hb] at h
      simp only [cond_true] at h
      have h1 := dropS_look h
      by_cases hes : e.1 = s
      · exfalso
        have hp : e.1 = p := Nat.eq_of_beq_eq_true hb
        have hno : ∀ Γ : Ctx, look (dropS s Γ) s = none := fun Γ => by
          induction Γ with
          | nil => rfl
          | cons e Γ ih =>
            unfold dropS
            cases hb2 : Nat.beq e.1 s with
            | true => simp only [cond_true]; exact ih
            | false => simp only [cond_false]; unfold look; rw [hb2]; exact ih
        rw [← hp, hes, hno] at h
        cases h
      · obtain ⟨d, V⟩ := e
        rw [look_ne _ _ hes]
        exact h1
    | false =>
      rw [hb] at h
      simp only [cond_false] at h
      by_cases hes : e.1 = s
      · obtain ⟨d, V⟩ := e
        have hes : d = s := hes
        subst hes
        rw [look_same] at h ⊢
        exact h
      · obtain ⟨d, V⟩ := e
        rw [look_ne _ _ hes] at h ⊢
        exact dropS_look h
theorem Fr.dropS {N : Nat} {Γ : Ctx} {a : Act} {w : World} (h : Fr N Γ a w) (p : Nat) : Fr N (dropS p Γ) a w := ⟨h.size, h.defers, fun s τ hs => h.val s τ (dropS_look hs)⟩
section
variable {P : Program} {Q : Exit → Act → World → Prop} {N : Nat} {Γ : Ctx} {a : Act} {w W : World} {o : Oper} {K : Act → World → Prop} {y : Nat → Option Bool}
theorem anyOp {d : Nat} {V : Ty} (hF : Fr N Γ a w) (hB : Below W.heap.size W w) (hg : o.guard = none) (hd : o.dst = some d) (hN : decide (d < N) = true) (h : OpOk P w Γ o V) (hk : ∀ a' w', Fr N ((d, V) :: Γ) a' w' → Below W.heap.size W w' → K a' w') : if Region.wanted o y = true then Oper.wp P o a w K Q else K (a.put o.dst undef) w := by
  simp only [Region.wanted, hg, if_true]
  refine h a w K Q (Below.refl _ _) (fun s τ _ hs => hF.val s τ hs) fun v w' hv hb => ?_
  rw [hd]
  exact hk _ _ (hF.put (of_decide_eq_true hN) hb hv) (hB.trans (hb.mono hB.size))
theorem anyNew {d : Nat} {t : TypeId} {z : Array Value} (hF : Fr N Γ a w) (hB : Below W.heap.size W w) (hg : o.guard = none) (hd : o.dst = some d) (hN : decide (d < N) = true) (ho : o.op = .alloc t) (hz : ∀ w : World, (Instr.alloc t true (.tuple #[])).run P w = .ok (.pointer (some ⟨w.heap.size, 0, none⟩)) (w.alloc (.cells z t))) (hk : ∀ a' w', Fr N ((d, Ty.var W t z) :: Γ) a' w' → Below W.heap.size W w' → K a' w') : if Region.wanted o y = true then Oper.wp P o a w K Q else K (a.put o.dst undef) w :=
  anyOp (V := Ty.var W t z) hF hB hg hd hN (OpOk.conv (τ := Ty.var w t z) (cAllocN ho hz) fun _ _ ⟨g, h1, h2, h3⟩ => ⟨g, h1, Nat.le_trans hB.size h2, h3⟩) hk
end
end Go.Proofs.Ytmlbkcpmgcjblaa

/- Regions by types: []byte of a constant string: the row laid is then frozen. -/
namespace Go.Proofs.Ytmlbkcpmgcjblaa
open Go.RowKit

theorem freeze_block {w : World} {g k : Nat} {cs : Array Value} {e : TypeId} {fr : Nat × Nat} (h : w.heap[g]? = some (.cells cs e fr)) : Keeps [g] w (w.freeze ⟨g, k, none⟩ 1) ∧ ∃ fr', (w.freeze ⟨g, k, none⟩ 1).heap[g]? = some (.cells cs e fr') := by
  obtain ⟨lo, hi⟩ := fr
  unfold World.freeze
  rw [if_neg (by decide)]
  refine ⟨⟨rfl, rfl, rfl, by simp, fun j hj hjg => ?_⟩, if lo == hi then (k, k + 1) else (min lo k, max hi (k + 1)), ?_⟩
  · simp only [List.mem_singleton] at hjg
    simp only [Array.getElem?_modify]
    rw [if_neg (fun e => hjg e.symm)]
  · simp only [Array.getElem?_modify, if_true, h, Option.map_some]
section
variable {P : Program} {w0 : World} {Γ : Ctx} {o : Oper}
theorem run_freeze {w : World} {t e : TypeId} {g off n c : Nat} {cs : Array Value} {fr : Nat × Nat} (ht : P.underlying t = some (.slice e)) (he : P.underlying e = some (.int .u8)) (h : w.heap[g]? = some (.cells cs e fr)) : (convert t t (.slice (some ⟨g, off, none⟩) n c)).run P w = .ok (.slice (some ⟨g, off, none⟩) n c) (w.freeze ⟨g, cs.size, none⟩ 1) := by
  have hsh : w.shape? g = some (e, cs.size) := by
    unfold World.shape?
    rw [h]
  simp [convert, run_underlying ht, run_underlying he, markStringish, hsh]
end
end Go.Proofs.Ytmlbkcpmgcjblaa

/- Drawn regions walked through all their orders: a constant's bytes frozen; a table stored. -/
namespace Go.Proofs.Ytmlbkcpmgcjblaa
open Go.RowKit

section
variable {P : Program} {Q : Exit → Act → World → Prop} {N : Nat} {Γ : Ctx} {a : Act} {w W : World} {o : Oper} {K : Act → World → Prop} {y : Nat → Option Bool}
theorem anyFreeze {d s : Nat} {t e : TypeId} {n : Nat} {xs : List Value} (hF : Fr N Γ a w) (hB : Below W.heap.size W w) (hg : o.guard = none) (hd : o.dst = some d) (hN : decide (d < N) = true) (ho : o.op = .convert t t (.tmp s)) (ht : P.underlying t = some (.slice e)) (he : P.underlying e = some (.int .u8)) (hs : look Γ s = some (Ty.seg W e 1 n xs)) (hn : 0 < n) (hfree : (dropS s Γ).free e = true)
    (hk : ∀ a' w', Fr N ((d, Ty.sl e n xs) :: dropS s Γ) a' w' → Below W.heap.size W w' → K a' w') : if Region.wanted o y = true then Oper.wp P o a w K Q else K (a.put o.dst undef) w := by
  simp only [Region.wanted, hg, if_true]
  obtain ⟨v, ⟨S, hseg, hS⟩, hF'⟩ := hF.open hs
  rcases hseg.cases with ⟨_, h0, _⟩ | ⟨g, off, cap, rfl, rfl, hl, hnc, hcm, cs, hbl, hsz, hx⟩
  · omega
  · have h1 := run_freeze (P := P) (t := t) (off := off) (n := n) (c := cap) ht he hbl
    obtain ⟨k1, fr', k2⟩ := freeze_block (k := cs.size) hbl
    unfold Oper.wp execOp
    simp only [ho, hF'.getEx (look_same _ _ _), Sem.run_bind, h1, Result.andThen_ok, Sem.run_pure]
    have hB' := below_own hB k1 hS
    have hFd : Fr N (dropS s Γ) a (w.freeze ⟨g, cs.size, none⟩ 1) := (hF.dropS s).free k1 (fun b hbm _ => by
      simp only [List.mem_singleton] at hbm
      subst hbm
      exact ⟨cs, (0, 0), hbl⟩) hfree
    unfold Oper.upon
    simp only [hd]
    refine hk _ _ (hFd.put (of_decide_eq_true hN) (Below.refl _ _) ?_) hB'
    refine ⟨_, cap, rfl, hnc, hcm, (fun h => by cases h), fun j u hu => ⟨g, off, cs, fr', rfl, k2, ?_⟩⟩
    have hj : j < n * 1 := by rw [← hl]; exact (List.getElem?_eq_some_iff.1 hu).1
    rw [hx j hj]
    exact hu
theorem anyStoreT {T e : TypeId} {p q seed : Nat} {L : List Cl} {w1 : World} (hF : Fr N Γ a w) (hB : Below W.heap.size W w) (hg : o.guard = none) (hd : o.dst = none) (ho : o.op = .store T (.tmp p) (.tmp q)) (hp : look Γ p = some (Ty.var W T #[.int .u64 0, .slice none 0 0])) (hq : look Γ q = some (Ty.tabO w1 e seed L)) (hi : (P.info? T).map (·.size) = some 2) (he : (T == e) = false) (hfree : (dropS p (dropS q Γ)).free T = true)
    (hk : ∀ a' w', Fr N ((p, Ty.tabP T e seed L) :: dropS p (dropS q Γ)) a' w' → Below W.heap.size W w' → K a' w') : if Region.wanted o y = true then Oper.wp P o a w K Q else K (a.put o.dst undef) w := by
  simp only [Region.wanted, hg, if_true]
  obtain ⟨u, ⟨g, rfl, hgW, hb⟩, hFp⟩ := hF.open hp
  obtain ⟨v, ⟨s, rfl, hs⟩, hFq⟩ := hF.open hq
  have hsl := seg_sl _ _ hs
  unfold Oper.wp execOp
  simp only [ho, hFp.getEx (look_same _ _ _), hFq.getEx (look_same _ _ _), Instr.storeAt, Instr.sureAddr, Sem.run_bind, Sem.run_pure, Result.andThen_ok, storeVar_cells T _ (.agg #[.int .u64 (seed : Int), s]), run_storeVar_mid w g 0 T (Value.agg #[.int .u64 (seed : Int), s]).cells (hb.there (Nat.le_refl _)) hi (sl_one hsl _)]
  have h3 : Keeps [g] w (w.setCells g 0 (Value.agg #[.int .u64 (seed : Int), s]).cells.toList) := Keeps.setCells (.inl (by simp)) _ _ (Keeps.refl _ _)
  have h2 := hb.setCells (Value.agg #[.int .u64 (seed : Int), s]).cells.toList 0
  rw [splice_all #[.int .u64 0, .slice none 0 0] (Value.agg #[.int .u64 (seed : Int), s]).cells.toList (by simp [Value.cells])] at h2
  have hB' := below_own hB h3 (by intro y hy; simp only [List.mem_singleton] at hy; omega)
  have hFd := ((hF.dropS q).dropS p).free h3 (fun b hbm _ => by
    simp only [List.mem_singleton] at hbm
    subst hbm
    exact ⟨_, (0, 0), hb⟩) hfree
  have hs' := (Ty.cls e L).far hsl h3 hb he
  unfold Oper.upon
  simp only [hd]
  refine hk _ _ ⟨hFd.size, hFd.defers, fun s' τ hs2 => ?_⟩ hB'
  by_cases hps : p = s'
  · subst hps
    rw [look_same] at hs2
    injection hs2 with hs2
    subst hs2
    obtain ⟨v', hv1, hv2⟩ := hFp.val p _ (look_same _ _ _)
    exact ⟨v', hv1, s, ⟨g, 0, _, (0, 0), hv2, h2, fun j u hu => by simpa [Value.cells] using hu⟩, hs'⟩
  · rw [look_ne _ _ hps] at hs2
    exact hFd.val s' τ hs2
end
end Go.Proofs.Ytmlbkcpmgcjblaa

/- Layer 10: the walks of SetParts, SetLaws. -/
namespace Go.Proofs.Ytmlbkcpmgcjblaa
open Go.RowKit

end Go.Proofs.Ytmlbkcpmgcjblaa

/- Layer 10: the walks of Add, Tell. -/
namespace Go.Proofs.Ytmlbkcpmgcjblaa
open Go.RowKit

end Go.Proofs.Ytmlbkcpmgcjblaa

/- Layer 10: the walk of SetAdds. -/
namespace Go.Proofs.Ytmlbkcpmgcjblaa
open Go.RowKit

end Go.Proofs.Ytmlbkcpmgcjblaa

/- Layer 10: words for the walk of SetKnown. -/
namespace Go.Proofs.Ytmlbkcpmgcjblaa
open Go.RowKit

section
variable {w0 : World} {Γ : Ctx} {o : Oper}
end

/-- A sum whose first two bytes are told. -/
def e2 (a b : Nat) : Sm := ⟨a % 256 :: b % 256 :: List.replicate 30 0, by simp, fun x hx => by
  rcases List.mem_cons.1 hx with rfl | hx
  · omega
  rcases List.mem_cons.1 hx with rfl | hx
  · omega
  · rw [(List.mem_replicate.1 hx).2]; omega⟩
end Go.Proofs.Ytmlbkcpmgcjblaa

/- Layer 10: the walk of SetKnown. -/
namespace Go.Proofs.Ytmlbkcpmgcjblaa
open Go.RowKit

theorem bad_not : goodL [s2, s1] = false := by decide
end Go.Proofs.Ytmlbkcpmgcjblaa

/- Layer 16 by types: PeelKnown. -/
namespace Go.Proofs.Ytmlbkcpmgcjblaa
open Go.RowKit

theorem stuck {seed : Nat} {L : List Cl} (h : ∀ j, j < L.length → pureAt seed L j = false) : peelS seed L = ⟨L, [], [], true⟩ := by
  unfold peelS
  exact run_stop (s := ⟨L, [], [], true⟩) (by show ¬ nextI seed L < L.length; rw [nextI_none h]; omega)
theorem stuck_res {seed : Nat} {L : List Cl} (hg : goodN (L.length : Int) = true) (h : ∀ j, j < L.length → pureAt seed L j = false) (hz : allZ L = false) : resN seed L = 10 ∧ resP seed L = [] ∧ resM seed L = [] ∧ resS seed L = seed ∧ resL seed L = L := by
  have hp := stuck h
  have hok : peelOk seed L = false := by
    unfold peelOk Pst.fine
    rw [hp, hz, Bool.and_false, Bool.and_false]
  refine ⟨?_, ?_, ?_, ?_, ?_⟩
  · unfold resN; rw [hg, hok]; rfl
  · unfold resP; rw [hok]; rfl
  · unfold resM; rw [hok]; rfl
  · unfold resS; rw [hg]; rfl
  · unfold resL; rw [hg, hp]; rfl
theorem not_ok {c : Cl} (h1 : ¬ c.n = 1) (h2 : ¬ c.n = -1) : c.ok = false := by unfold Cl.ok; simp [h1, h2]
theorem not_pure {seed : Nat} {L : List Cl} {j : Nat} (h : (L.getD j default).ok = false) : pureAt seed L j = false := by unfold pureAt; rw [h]; rfl
theorem g3 : goodN 3 = true := by decide
theorem at3 (s : Nat) (x : Sm) {j : Nat} (hj : j < 3) : isAt s 3 j x = true := by
  have e : placesN s ((3 : Nat) : Int) x = [0, 1, 2] := by
    unfold placesN
    rw [if_pos (by decide)]
    simp [plc, Nat.mod_one]
  unfold isAt
  rw [e]
  exact decide_eq_true (by simp; omega)
theorem cell3 (s : Nat) (D : List Sm) {j : Nat} (hj : j < 3) : ((ofL s 3 D).getD j default).n = wrap64 ((setL D).length : Int) := by
  have e : (setL D).filter (isAt s (Int.toNat 3) j) = setL D := List.filter_eq_self.2 fun x _ => at3 s x hj
  rw [ofL_get (n := 3) g3 hj, e, putAll_n _ _ _ zero_norm]
  congr 1
  show (0 : Int) + 1 * _ = _
  omega
theorem few4_nodup : (([1, 2, 3, 4] : List Int).map fewS).Nodup := by decide +kernel
theorem few2_nodup : (([1, 2] : List Int).map fewS).Nodup := by decide +kernel
theorem len4 : (setL (fewL [1, 2, 3, 4])).length = 4 := by
  rw [setL_self (fewL_srt _)]
  exact (setL_perm few4_nodup).length_eq
theorem len2 : (setL (fewL [1, 2])).length = 2 := by
  rw [setL_self (fewL_srt _)]
  exact (setL_perm few2_nodup).length_eq
theorem l3 (s : Nat) (D : List Sm) : (ofL s 3 D).length = 3 := ofL_len g3
theorem n_ne {c : Cl} (h : ¬ c.n = 0) : ¬ c = Cl.zero := fun e => h (by rw [e]; rfl)
/-- Two in three cells. -/
theorem known_d : resN 1 (ofL 1 3 (fewL [1, 2])) = 10 ∧ resP 1 (ofL 1 3 (fewL [1, 2])) = [] ∧ resM 1 (ofL 1 3 (fewL [1, 2])) = [] ∧ resS 1 (ofL 1 3 (fewL [1, 2])) = 1 ∧ resL 1 (ofL 1 3 (fewL [1, 2])) = ofL 1 3 (fewL [1, 2]) := by
  have hn : ∀ j, j < 3 → ((ofL 1 3 (fewL [1, 2])).getD j default).n = 2 := fun j hj => by rw [cell3 1 _ hj, len2]; exact w64_in (by omega)
  refine stuck_res (by rw [l3]; exact g3) (fun j hj => ?_) (allZ_bad (k := 0) (by rw [l3]; omega) (n_ne (by rw [hn 0 (by omega)]; omega)))
  rw [l3] at hj
  exact not_pure (not_ok (by rw [hn j hj]; omega) (by rw [hn j hj]; omega))
theorem own_none' {seed : Nat} {L : List Cl} {M : List Sm} (h : ownN seed L M = 10) : ownP seed L M = [] ∧ ownQ seed L M = [] := by
  unfold ownP ownQ
  rw [h]
  exact ⟨rfl, rfl⟩
theorem known_f : ownN 1 (ofL 1 3 (fewL [1, 2])) (fewL [1, 2, 3, 4]) = 10 := by
  have hD : ownD 1 (ofL 1 3 (fewL [1, 2])) (fewL [1, 2, 3, 4]) = tminus (ofL 1 3 (fewL [1, 2])) (ofL 1 3 (fewL [1, 2, 3, 4])) := by unfold ownD; rw [l3]; rfl
  have hl : (ofL 1 3 (fewL [1, 2])).length = (ofL 1 3 (fewL [1, 2, 3, 4])).length := by rw [l3, l3]
  have hlD : (ownD 1 (ofL 1 3 (fewL [1, 2])) (fewL [1, 2, 3, 4])).length = 3 := by rw [hD, tminus_len hl, l3]
  have hn : ∀ j, j < 3 → ((ownD 1 (ofL 1 3 (fewL [1, 2])) (fewL [1, 2, 3, 4])).getD j default).n = -2 := fun j hj => by
    rw [hD, tminus_get hl (by rw [l3]; exact hj)]
    show wrap64 (_ - _) = _
    rw [cell3 1 _ hj, cell3 1 _ hj, len2, len4, wrap64_sub, wrap64_subl]
    exact w64_in (by omega)
  have h10 := (stuck_res (seed := 1) (L := ownD 1 (ofL 1 3 (fewL [1, 2])) (fewL [1, 2, 3, 4])) (by rw [hlD]; exact g3) (fun j hj => by
    rw [hlD] at hj
    exact not_pure (not_ok (by rw [hn j hj]; omega) (by rw [hn j hj]; omega))) (allZ_bad (k := 0) (by rw [hlD]; omega) (n_ne (by rw [hn 0 (by omega)]; omega)))).1
  have hgl : goodL (fewL [1, 2, 3, 4]) = true := by
    rw [goodL_srt (fewL_srt _)]
    have := fewL_len [1, 2, 3, 4]
    exact decide_eq_true (by simp at this; omega)
  unfold ownN
  rw [h10, hgl, l3, show goodN ((3 : Nat) : Int) = true from g3]; rfl
theorem known_m (y : Sm) : ownN 1 (tput 1 (tzero 12) y (-1)) [] = 10 := by
  have hl : (tput 1 (tzero 12) y (-1)).length = 12 := by rw [tput_len, tzero_len]
  have hD : ownD 1 (tput 1 (tzero 12) y (-1)) [] = tput 1 (tzero 12) y (-1) := by
    unfold ownD
    rw [hl, ofL_nil (n := ((12 : Nat) : Int)) (by decide)]
    have h := tminus_zero (L := tput 1 (tzero 12) y (-1)) (tput_norm y (tzero_norm 12))
    rw [hl] at h
    exact h
  obtain ⟨_, a1, a2, a3⟩ := ok_one (seed := 1) (N := 12) (by decide) y (-1) (.inr rfl)
  have hm : minusL [y] [] = [y] := srt_ext (minusL_srt _ _) (s_one _) fun x => by rw [minusL_mem]; simp
  have hB : ownB 1 (tput 1 (tzero 12) y (-1)) [] = true := by
    unfold ownB
    rw [hD, a2, if_neg (by decide), hm]
    rfl
  unfold ownN
  rw [hD, a3, hB, hl]; rfl
def oneL : List Cl := (tzero 12).set 0 ⟨5, Sm.zero, Sm.zero⟩
theorem known_n : resN 1 oneL = 10 ∧ resP 1 oneL = [] ∧ resM 1 oneL = [] ∧ resS 1 oneL = 1 ∧ resL 1 oneL = oneL := by
  have hl : oneL.length = 12 := by unfold oneL; rw [List.length_set, tzero_len]
  have hc : ∀ j, j < 12 → oneL.getD j default = if 0 = j then ⟨5, Sm.zero, Sm.zero⟩ else Cl.zero := fun j hj => by
    unfold oneL
    rw [getD_set_eq _ _ (by rw [tzero_len]; exact hj), tzero_get hj]
  refine stuck_res (by rw [hl]; decide) (fun j hj => ?_) (allZ_bad (k := 0) (by rw [hl]; omega) (by rw [hc 0 (by omega), if_pos rfl]; exact n_ne (by decide)))
  rw [hl] at hj
  refine not_pure ?_
  rw [hc j hj]
  split
  · exact not_ok (by decide) (by decide)
  · exact zero_bad
theorem all_bad : resN 0 [] = 1 ∧ resP 0 [] = [] ∧ resM 0 [] = [] ∧ resS 0 [] = 0 ∧ resL 0 [] = [] := by
  have hg : goodN (([] : List Cl).length : Int) = false := by decide
  have hok : peelOk 0 [] = false := by unfold peelOk; rw [hg]; rfl
  refine ⟨?_, ?_, ?_, ?_, ?_⟩
  · unfold resN; rw [hg]; rfl
  · unfold resP; rw [hok]; rfl
  · unfold resM; rw [hok]; rfl
  · unfold resS; rw [hg]; rfl
  · unfold resL; rw [hg]; rfl
theorem own_bad : ownN 1 (tzero 12) [s2, s1] = 1 ∧ ownP 1 (tzero 12) [s2, s1] = [] ∧ ownQ 1 (tzero 12) [s2, s1] = [] := by
  have h : ownN 1 (tzero 12) [s2, s1] = 1 := by unfold ownN; rw [bad_not, Bool.and_false]; rfl
  refine ⟨h, ?_, ?_⟩
  · unfold ownP; rw [h]; rfl
  · unfold ownQ; rw [h]; rfl
theorem buildC5 (w : World) : (Instr.build 87 #[(0, .int .i64 5)]).run Try.prog w = .ok (.agg (Cl.mk 5 Sm.zero Sm.zero).a) w := by kernel_rfl
theorem zero12 : (allZ (tzero 12)) = true := allZ_tzero 12
set_option maxRecDepth 100000 in
set_option maxHeartbeats 8000000 in
theorem lawPeelKnown_any (W : World) : Calls Try.prog 14 #[] W fun e w' => e = .returned (.bool true) ∧ Below W.heap.size W w' := by
  have f12 := few16_ty [1, 2] (Ty.sl 3 2 [ivz 1, ivz 2]) (reads_sl _ _ _) (by simp)
  have f14 := few16_ty [1, 2, 3, 4] (Ty.sl 3 4 [ivz 1, ivz 2, ivz 3, ivz 4]) (reads_sl _ _ _) (by simp)
  have l12 := fewL_len [1, 2]
  have l14 := fewL_len [1, 2, 3, 4]
  have sX := fewL_srt [1, 2]
  -- All of what is none
  have hA1 := pall_ty 0 [] (by omega)
  obtain ⟨a1, a2, a3, a4, a5⟩ := all_bad
  rw [a1, a2, a3, a4, a5] at hA1
  clear a1 a2 a3 a4 a5
  -- New, All of it
  have hNw := tnew_ty 1 12
  rw [newL_good g12, newE_good g12, newS_good g12, show ((12 : Int).toNat) = 12 from rfl] at hNw
  have hA2 := pall_ty 1 (tzero 12) (by omega)
  obtain ⟨hok, a2, a3, a1⟩ := ok_zero0 (seed := 1) (L := tzero 12) (by rw [tzero_len]; decide) zero12
  obtain ⟨hz0, hl0, a4, _⟩ := ok_left hok
  rw [a1, a2, a3, a4] at hA2
  have hTZ := tzero_ty 1 (resL 1 (tzero 12))
  rw [hl0, hz0, tzero_len, show goodN ((12 : Nat) : Int) = true by decide] at hTZ
  clear a1 a2 a3 a4 hok hz0 hl0
  generalize resL 1 (tzero 12) = ZL at *
  -- two in three cells
  have hT := tof_ty 1 3 (fewL [1, 2]) (by simp at l12; omega) (by omega)
  rw [newE_good g3, newS_good g3] at hT
  have hA3 := pall_ty 1 (ofL 1 3 (fewL [1, 2])) (by omega)
  obtain ⟨a1, a2, a3, a4, a5⟩ := known_d
  rw [a1, a2, a3, a4, a5] at hA3
  have hO4 := own_ty 1 (ofL 1 3 (fewL [1, 2])) (fewL [1, 2, 3, 4]) (by simp at l14; omega) (by omega)
  obtain ⟨b1, b2⟩ := own_none' known_f
  rw [known_f, b1, b2] at hO4
  have hO5 := own_ty 1 (ofL 1 3 (fewL [1, 2])) (fewL [1, 2]) (by simp at l12; omega) (by omega)
  obtain ⟨c1, c2, c3⟩ := self16 1 g3 sX (by simp at l12; omega)
  rw [c1, c2, c3] at hO5
  have tO := tableOf16_ty 1 (ofL 1 3 (fewL [1, 2])) (by rw [l3]; omega)
  have tS := sameT16_ty 1 1 (ofL 1 3 (fewL [1, 2])) (ofL 1 3 (fewL [1, 2])) (by rw [l3]; omega)
  rw [decide_eq_true rfl, decide_eq_true rfl] at tS
  clear a1 a2 a3 a4 a5 b1 b2 c1 c2 c3 l12 l14 sX
  generalize ofL 1 3 (fewL [1, 2]) = A at *
  generalize fewL [1, 2] = X at *
  generalize fewL [1, 2, 3, 4] = X4 at *
  -- what may not be
  have hO6 := own_ty 1 (tzero 12) [s2, s1] (by simp) (by omega)
  obtain ⟨a1, a2, a3⟩ := own_bad
  rw [a1, a2, a3] at hO6
  clear a1 a2 a3
  -- less than none
  have hSO := sumOf1_ty (e := 70) (τ := Ty.sl 5 1 [.int .u8 122]) [122] (reads_sl _ _ _) (by simp) (by simp)
  have hX : shaL [122] = (shaS [122]).l := rfl
  rw [hX] at hSO
  generalize shaS [122] = y at *
  clear hX
  have hTk := ttake_ty 1 (tzero 12) y (by rw [tzero_len]; omega) (by omega)
  have hA7 := pall_ty 1 (tput 1 (tzero 12) y (-1)) (by omega)
  obtain ⟨hok, a2, a3, a1⟩ := ok_one (seed := 1) (N := 12) (by decide) y (-1) (.inr rfl)
  rw [if_neg (by decide)] at a2 a3
  obtain ⟨_, _, a4, _⟩ := ok_left hok
  rw [a1, a2, a3, a4] at hA7
  have hO8 := own_ty 1 (tput 1 (tzero 12) y (-1)) [] (by simp) (by omega)
  obtain ⟨b1, b2⟩ := own_none' (known_m y)
  rw [known_m, b1, b2] at hO8
  clear a1 a2 a3 a4 b1 b2 hok
  generalize resL 1 (tput 1 (tzero 12) y (-1)) = NL at *
  generalize tput 1 (tzero 12) y (-1) = NG at *
  -- a cell of five
  have hA9 := pall_ty 1 oneL (by omega)
  obtain ⟨a1, a2, a3, a4, a5⟩ := known_n
  rw [a1, a2, a3, a4, a5] at hA9
  clear a1 a2 a3 a4 a5
  have eO : oneL = (tzero 12).set 0 ⟨5, Sm.zero, Sm.zero⟩ := rfl
  have zl : (tzero 12).length = 12 := tzero_len 12
  generalize tzero 12 = Z at *
  generalize oneL = OL at *
  refine enter_ty 200 [] Try.func14 rfl (by kernel_rfl) trivial fun a hF => ?_
  have hB := Below.refl W.heap.size W
  repeat with_reducible first | refine wp_seq ?_ | refine nThen ?_ | refine wp_skip ?_ | refine wp_ret ?_
  refine' reg_all hF ?_ mixed (by kernel_rfl) ?_
  rotate_left
  · repeat (first
        | exact Line.nil
        | ((first | refine' Line.cons rfl (.run rfl rfl ?_) ?_ | refine' Line.cons rfl (.yes rfl rfl rfl rfl ?_) ?_)
           any_goals (first | exact cMove rfl rfl | exact cAssign rfl rfl | exact cNot rfl rfl | exact cPickT rfl rfl rfl | exact cEql rfl rfl rfl | exact cExtract rfl rfl rfl)
           rotate_left))
  intro a w1 hF hb hN
  have hBs := hB.size
  replace hB := hB.trans (hb.mono hB.size)
  dsimp only [ext, Option.getD] at hF
  repeat with_reducible first | refine wp_seq ?_ | refine nThen ?_ | refine wp_skip ?_ | refine wp_ret ?_
  refine' reg_all hF ?_ mixed (by kernel_rfl) ?_
  rotate_left
  · repeat (first
        | exact Line.nil
        | ((first | refine' Line.cons rfl (.run rfl rfl ?_) ?_ | refine' Line.cons rfl (.yes rfl rfl rfl rfl ?_) ?_)
           any_goals (first | exact cMove rfl rfl | exact cAssign rfl rfl | exact cNot rfl rfl | exact cCall0 rfl awake16_ty | exact cPickT rfl rfl rfl | exact cEql rfl rfl rfl | exact cExtract rfl rfl rfl)
           rotate_left))
  intro a w2 hF hb hN
  have hBs := hB.size
  replace hB := hB.trans (hb.mono hB.size)
  dsimp only [ext, Option.getD] at hF
  repeat with_reducible first | refine wp_seq ?_ | refine nThen ?_ | refine wp_skip ?_ | refine wp_ret ?_
  refine cond_f hF rfl ?_
  repeat with_reducible first | refine wp_seq ?_ | refine nThen ?_ | refine wp_skip ?_ | refine wp_ret ?_
  refine wp_region_lit ?_
  refine' tlOp hF rfl rfl rfl ?_ ?_
  rotate_left
  · first | exact cMove rfl rfl | exact cBuildE rfl (fun w => buildT046 w) | exact cCallH1 rfl (Has.l rfl (tab_none _ _ rfl)) hA1
  intro a w3_0 hF hb
  replace hB := hB.trans (hb.mono hB.size)
  refine' tlOp hF rfl rfl rfl ?_ ?_
  rotate_left
  · first | exact cMove rfl rfl | exact cBuildE rfl (fun w => buildT046 w) | exact cCallH1 rfl (Has.l rfl (tab_none _ _ rfl)) hA1
  intro a w3_1 hF hb
  replace hB := hB.trans (hb.mono hB.size)
  refine' tlOp hF rfl rfl rfl ?_ ?_
  rotate_left
  · first | exact cMove rfl rfl | exact cBuildE rfl (fun w => buildT046 w) | exact cCallH1 rfl (Has.l rfl (tab_none _ _ rfl)) hA1
  intro a w3_2 hF hb
  replace hB := hB.trans (hb.mono hB.size)
  refine' tlOp hF rfl rfl rfl ?_ ?_
  rotate_left
  · exact cExtract rfl rfl rfl
  intro a w3_t hF hb
  replace hB := hB.trans (hb.mono hB.size)
  refine' tlOp hF rfl rfl rfl ?_ ?_
  rotate_left
  · exact cExtract rfl rfl rfl
  intro a w3_e hF hb
  replace hB := hB.trans (hb.mono hB.size)
  refine tlNewRes hF rfl rfl rfl (by decide) rfl rfl rfl rfl rfl fun a w3_n hF hb => ?_
  replace hB := hB.trans (hb.mono hB.size)
  refine' tlOp hF rfl rfl rfl ?_ ?_
  rotate_left
  · exact cAssign rfl rfl
  intro a w3 hF hb
  replace hB := hB.trans (hb.mono hB.size)
  try (refine wpList_nil ?_)
  repeat with_reducible first | refine wp_seq ?_ | refine nThen ?_ | refine wp_skip ?_ | refine wp_ret ?_
  refine wp_region_lit ?_
  refine' tlOp hF rfl rfl rfl ?_ ?_
  rotate_left
  · first | exact cMove rfl rfl | exact cCallR2 rfl (.t rfl) (.t rfl) hNw (tabE_olds _ _ _ _)
  intro a w4_0 hF hb
  replace hB := hB.trans (hb.mono hB.size)
  refine' tlOp hF rfl rfl rfl ?_ ?_
  rotate_left
  · first | exact cMove rfl rfl | exact cCallR2 rfl (.t rfl) (.t rfl) hNw (tabE_olds _ _ _ _)
  intro a w4_1 hF hb
  replace hB := hB.trans (hb.mono hB.size)
  refine' tlOp hF rfl rfl rfl ?_ ?_
  rotate_left
  · exact cExtT rfl rfl
  intro a w4_t hF hb
  replace hB := hB.trans (hb.mono hB.size)
  refine' tlOp hF rfl rfl rfl ?_ ?_
  rotate_left
  · exact cExtE rfl rfl
  intro a w4_e hF hb
  replace hB := hB.trans (hb.mono hB.size)
  refine tlNewTab hF rfl rfl rfl (by decide) rfl (run_alloc_i infoT46) rfl rfl rfl rfl tabO_tab sizeT46 fun a w4_n hF hb => ?_
  replace hB := hB.trans (hb.mono hB.size)
  refine' tlOp hF rfl rfl rfl ?_ ?_
  rotate_left
  · exact cAssign rfl rfl
  intro a w4 hF hb
  replace hB := hB.trans (hb.mono hB.size)
  try (refine wpList_nil ?_)
  repeat with_reducible first | refine wp_seq ?_ | refine nThen ?_ | refine wp_skip ?_ | refine wp_ret ?_
  refine wp_region_lit ?_
  refine' tlOp hF rfl rfl rfl ?_ ?_
  rotate_left
  · first | exact cMove rfl rfl | exact cLoadTab46 rfl (.t rfl) | exact cCall1 rfl rfl hA2
  intro a w5_0 hF hb
  replace hB := hB.trans (hb.mono hB.size)
  refine' tlOp hF rfl rfl rfl ?_ ?_
  rotate_left
  · first | exact cMove rfl rfl | exact cLoadTab46 rfl (.t rfl) | exact cCall1 rfl rfl hA2
  intro a w5_1 hF hb
  replace hB := hB.trans (hb.mono hB.size)
  refine' tlOp hF rfl rfl rfl ?_ ?_
  rotate_left
  · first | exact cMove rfl rfl | exact cLoadTab46 rfl (.t rfl) | exact cCall1 rfl rfl hA2
  intro a w5_2 hF hb
  replace hB := hB.trans (hb.mono hB.size)
  refine' tlOp hF rfl rfl rfl ?_ ?_
  rotate_left
  · exact cExtract rfl rfl rfl
  intro a w5_t hF hb
  replace hB := hB.trans (hb.mono hB.size)
  refine' tlOp hF rfl rfl rfl ?_ ?_
  rotate_left
  · exact cExtract rfl rfl rfl
  intro a w5_e hF hb
  replace hB := hB.trans (hb.mono hB.size)
  refine tlNewRes hF rfl rfl rfl (by decide) rfl rfl rfl rfl rfl fun a w5_n hF hb => ?_
  replace hB := hB.trans (hb.mono hB.size)
  refine' tlOp hF rfl rfl rfl ?_ ?_
  rotate_left
  · exact cAssign rfl rfl
  intro a w5 hF hb
  replace hB := hB.trans (hb.mono hB.size)
  try (refine wpList_nil ?_)
  repeat with_reducible first | refine wp_seq ?_ | refine nThen ?_ | refine wp_skip ?_ | refine wp_ret ?_
  refine wp_region_lit ?_
  refine' tlOp hF rfl rfl rfl ?_ ?_
  rotate_left
  · first | exact cMove rfl rfl | exact cBuildV (vs := [ivz 1, ivz 2]) rfl (parts2v rfl rfl rfl) Try.underlying66 infoInt rfl (by simp [Value.cells, ivz]) (by decide) (by simp [maxLen]) | exact cCallS1 rfl (.t rfl) f12 | exact cCallR3 rfl (.t rfl) (.t rfl) (Has.c (.t rfl) seg_sl) hT (tabE_olds _ _ _ _)
  intro a w6_0 hF hb
  replace hB := hB.trans (hb.mono hB.size)
  refine' tlOp hF rfl rfl rfl ?_ ?_
  rotate_left
  · first | exact cMove rfl rfl | exact cBuildV (vs := [ivz 1, ivz 2]) rfl (parts2v rfl rfl rfl) Try.underlying66 infoInt rfl (by simp [Value.cells, ivz]) (by decide) (by simp [maxLen]) | exact cCallS1 rfl (.t rfl) f12 | exact cCallR3 rfl (.t rfl) (.t rfl) (Has.c (.t rfl) seg_sl) hT (tabE_olds _ _ _ _)
  intro a w6_1 hF hb
  replace hB := hB.trans (hb.mono hB.size)
  refine' tlOp hF rfl rfl rfl ?_ ?_
  rotate_left
  · first | exact cMove rfl rfl | exact cBuildV (vs := [ivz 1, ivz 2]) rfl (parts2v rfl rfl rfl) Try.underlying66 infoInt rfl (by simp [Value.cells, ivz]) (by decide) (by simp [maxLen]) | exact cCallS1 rfl (.t rfl) f12 | exact cCallR3 rfl (.t rfl) (.t rfl) (Has.c (.t rfl) seg_sl) hT (tabE_olds _ _ _ _)
  intro a w6_2 hF hb
  replace hB := hB.trans (hb.mono hB.size)
  refine' tlOp hF rfl rfl rfl ?_ ?_
  rotate_left
  · first | exact cMove rfl rfl | exact cBuildV (vs := [ivz 1, ivz 2]) rfl (parts2v rfl rfl rfl) Try.underlying66 infoInt rfl (by simp [Value.cells, ivz]) (by decide) (by simp [maxLen]) | exact cCallS1 rfl (.t rfl) f12 | exact cCallR3 rfl (.t rfl) (.t rfl) (Has.c (.t rfl) seg_sl) hT (tabE_olds _ _ _ _)
  intro a w6_3 hF hb
  replace hB := hB.trans (hb.mono hB.size)
  refine' tlOp hF rfl rfl rfl ?_ ?_
  rotate_left
  · exact cExtT rfl rfl
  intro a w6_t hF hb
  replace hB := hB.trans (hb.mono hB.size)
  refine' tlOp hF rfl rfl rfl ?_ ?_
  rotate_left
  · exact cExtE rfl rfl
  intro a w6_e hF hb
  replace hB := hB.trans (hb.mono hB.size)
  refine tlNewTab hF rfl rfl rfl (by decide) rfl (run_alloc_i infoT46) rfl rfl rfl rfl tabO_tab sizeT46 fun a w6_n hF hb => ?_
  replace hB := hB.trans (hb.mono hB.size)
  refine' tlOp hF rfl rfl rfl ?_ ?_
  rotate_left
  · exact cAssign rfl rfl
  intro a w6 hF hb
  replace hB := hB.trans (hb.mono hB.size)
  try (refine wpList_nil ?_)
  repeat with_reducible first | refine wp_seq ?_ | refine nThen ?_ | refine wp_skip ?_ | refine wp_ret ?_
  refine wp_region_lit ?_
  refine' tlOp hF rfl rfl rfl ?_ ?_
  rotate_left
  · first | exact cMove rfl rfl | exact cLoadTab46 rfl (.t rfl) | exact cCall1 rfl rfl hA3
  intro a w7_0 hF hb
  replace hB := hB.trans (hb.mono hB.size)
  refine' tlOp hF rfl rfl rfl ?_ ?_
  rotate_left
  · first | exact cMove rfl rfl | exact cLoadTab46 rfl (.t rfl) | exact cCall1 rfl rfl hA3
  intro a w7_1 hF hb
  replace hB := hB.trans (hb.mono hB.size)
  refine' tlOp hF rfl rfl rfl ?_ ?_
  rotate_left
  · first | exact cMove rfl rfl | exact cLoadTab46 rfl (.t rfl) | exact cCall1 rfl rfl hA3
  intro a w7_2 hF hb
  replace hB := hB.trans (hb.mono hB.size)
  refine' tlOp hF rfl rfl rfl ?_ ?_
  rotate_left
  · exact cExtract rfl rfl rfl
  intro a w7_t hF hb
  replace hB := hB.trans (hb.mono hB.size)
  refine' tlOp hF rfl rfl rfl ?_ ?_
  rotate_left
  · exact cExtract rfl rfl rfl
  intro a w7_e hF hb
  replace hB := hB.trans (hb.mono hB.size)
  refine tlNewRes hF rfl rfl rfl (by decide) rfl rfl rfl rfl rfl fun a w7_n hF hb => ?_
  replace hB := hB.trans (hb.mono hB.size)
  refine' tlOp hF rfl rfl rfl ?_ ?_
  rotate_left
  · exact cAssign rfl rfl
  intro a w7 hF hb
  replace hB := hB.trans (hb.mono hB.size)
  try (refine wpList_nil ?_)
  repeat with_reducible first | refine wp_seq ?_ | refine nThen ?_ | refine wp_skip ?_ | refine wp_ret ?_
  refine' reg_all hF ?_ mixed (by kernel_rfl) ?_
  rotate_left
  · repeat (first
        | exact Line.nil
        | ((first | refine' Line.cons rfl (.run rfl rfl ?_) ?_ | refine' Line.cons rfl (.yes rfl rfl rfl rfl ?_) ?_)
           any_goals (first | exact cMove rfl rfl | exact cAssign rfl rfl | exact cNot rfl rfl | exact cBuildV (vs := [ivz 1, ivz 2, ivz 3, ivz 4]) rfl (fun a w _ => by simp [Act.eval, ivz]) Try.underlying66 infoInt rfl (by simp [Value.cells, ivz]) (by decide) (by simp [maxLen]) | exact cCallS1 rfl (.t rfl) f14 | exact cLoadTab46 rfl (.t rfl) | exact cCallH2 rfl (.t rfl) (Has.c (.t rfl) seg_sl) hO4 | exact cPickT rfl rfl rfl | exact cEql rfl rfl rfl | exact cExtract rfl rfl rfl)
           rotate_left))
  intro a w8 hF hb hN
  have hBs := hB.size
  replace hB := hB.trans (hb.mono hB.size)
  dsimp only [ext, Option.getD] at hF
  repeat with_reducible first | refine wp_seq ?_ | refine nThen ?_ | refine wp_skip ?_ | refine wp_ret ?_
  refine' reg_all hF ?_ mixed (by kernel_rfl) ?_
  rotate_left
  · repeat (first
        | exact Line.nil
        | ((first | refine' Line.cons rfl (.run rfl rfl ?_) ?_ | refine' Line.cons rfl (.yes rfl rfl rfl rfl ?_) ?_)
           any_goals (first | exact cMove rfl rfl | exact cAssign rfl rfl | exact cNot rfl rfl | exact cBuildV (vs := [ivz 1, ivz 2]) rfl (parts2v rfl rfl rfl) Try.underlying66 infoInt rfl (by simp [Value.cells, ivz]) (by decide) (by simp [maxLen]) | exact cCallS1 rfl (.t rfl) f12 | exact cLoadTab46 rfl (.t rfl) | exact cCallH2 rfl (.t rfl) (Has.c (.t rfl) seg_sl) hO5 | exact cPickT rfl rfl rfl | exact cEql rfl rfl rfl | exact cExtract rfl rfl rfl)
           rotate_left))
  intro a w9 hF hb hN
  have hBs := hB.size
  replace hB := hB.trans (hb.mono hB.size)
  dsimp only [ext, Option.getD] at hF
  repeat with_reducible first | refine wp_seq ?_ | refine nThen ?_ | refine wp_skip ?_ | refine wp_ret ?_
  refine' reg_all hF ?_ mixed (by kernel_rfl) ?_
  rotate_left
  · repeat (first
        | exact Line.nil
        | ((first | refine' Line.cons rfl (.run rfl rfl ?_) ?_ | refine' Line.cons rfl (.yes rfl rfl rfl rfl ?_) ?_)
           any_goals (first | exact cMove rfl rfl | exact cAssign rfl rfl | exact cNot rfl rfl | exact cLoadTab46 rfl (.t rfl) | exact cBuildC rfl build_s1 | exact cBuildC rfl build_s2 | exact cBuildSums [s2, s1] rfl (parts2v rfl rfl rfl) Try.underlying25 infoS rfl | exact cCallH2 rfl (.t rfl) (.t rfl) hO6 | exact cPickT rfl rfl rfl | exact cEql rfl rfl rfl | exact cExtract rfl rfl rfl)
           rotate_left))
  intro a w10 hF hb hN
  have hBs := hB.size
  replace hB := hB.trans (hb.mono hB.size)
  dsimp only [ext, Option.getD] at hF
  repeat with_reducible first | refine wp_seq ?_ | refine nThen ?_ | refine wp_skip ?_ | refine wp_ret ?_
  obtain ⟨v3, h3, hF⟩ := hF.open (s := 3) rfl
  obtain ⟨v5, h5, hF⟩ := hF.open (s := 5) rfl
  obtain ⟨v7, h7, hF⟩ := hF.open (s := 7) rfl
  obtain ⟨v9, h9, hF⟩ := hF.open (s := 9) rfl
  let T3 := Ty.tabP 41 87 1 Z
  let T5 := Ty.resA [] [] 1 ZL
  let T7 := Ty.tabP 41 87 1 A
  let T9 := Ty.resA [] [] 1 A
  have hB10 := hB
  have hw10 := hB.size
  replace hB := Below.refl w10.heap.size w10
  refine wp_mono (Q := fun e a w => e = .normal ∧ Fr 200 [(2, Ty.ex (.int .i64 1)), (3, Ty.ex v3), (5, Ty.ex v5), (6, Ty.ex (.int .i64 0)), (7, Ty.ex v7), (9, Ty.ex v9), (10, Ty.ex (.int .i64 10)), (13, Ty.ex (.int .i64 10)), (14, Ty.sums 34 []), (15, Ty.sums 34 []), (16, Ty.ex (.int .i64 0)), (19, Ty.ex (.int .i64 1)), (20, Ty.tabP 41 87 1 NG)] a w ∧ Below w10.heap.size w10 w) ?_ ?_
  · replace hF := (hF.keep [2, 3, 5, 6, 7, 9, 10, 13, 14, 15, 16, 19]).below (Below.refl _ _).drew
    dsimp only [pick, look] at hF
    replace hB := hB.trans ((Below.refl _ _).drew.mono hB.size)
    refine wp_region_any mixed ?_
    refine (show wpAny _ _ _ _ 8 _ _ _ from ?_)
    refine wpAny_ready (rs := [0, 1, 6]) (by kernel_rfl) (by simp) ?_
    refine AllReady.cons rfl (fun K hK => ?_) ?_
    · refine anyOp hF hB rfl rfl rfl (cLoadTab46 rfl (.l rfl (T3.below h3 hB))) fun a w hF hB => hK _ _ ?_
      refine wpAny_ready (rs := [1, 6]) (by kernel_rfl) (by simp) ?_
      refine AllReady.cons rfl (fun K hK => ?_) ?_
      · refine anyOp (V := Ty.seg w10 5 1 1 [.int .u8 122]) hF hB rfl rfl rfl (OpOk.conv (cBuildB1 rfl rfl) fun w v h => seg_old hB.size w v h) fun a w hF hB => hK _ _ ?_
        refine wpAny_ready (rs := [2, 6]) (by kernel_rfl) (by simp) ?_
        refine AllReady.cons rfl (fun K hK => ?_) ?_
        · refine anyFreeze hF hB rfl rfl rfl rfl Try.underlying70 Try.underlying5 rfl (by decide) rfl fun a w hF hB => hK _ _ ?_
          refine wpAny_ready (rs := [3, 6]) (by kernel_rfl) (by simp) ?_
          refine AllReady.cons rfl (fun K hK => ?_) ?_
          · refine anyOp hF hB rfl rfl rfl (cBuildT (τs := [Ty.sl 5 1 [.int .u8 122]]) rfl (partsT1 rfl (.t rfl) (Ty.sl_isSl _ _ _)) Try.underlying113 infoB rfl) fun a w hF hB => hK _ _ ?_
            refine wpAny_ready (rs := [4, 6]) (by kernel_rfl) (by simp) ?_
            refine AllReady.cons rfl (fun K hK => ?_) ?_
            · refine anyOp hF hB rfl rfl rfl (cCall1 rfl rfl hSO) fun a w hF hB => hK _ _ ?_
              refine wpAny_ready (rs := [5, 6]) (by kernel_rfl) (by simp) ?_
              refine AllReady.cons rfl (fun K hK => ?_) ?_
              · refine anyOp hF hB rfl rfl rfl (cCallR2 rfl (.t rfl) (.t rfl) hTk (tabO_olds _ _ _)) fun a w hF hB => hK _ _ ?_
                refine wpAny_ready (rs := [6]) (by kernel_rfl) (by simp) ?_
                refine AllReady.cons rfl (fun K hK => ?_) ?_
                · refine anyNew hF hB rfl rfl rfl rfl (run_alloc_i infoT46) fun a w hF hB => hK _ _ ?_
                  refine wpAny_ready (rs := [7]) (by kernel_rfl) (by simp) ?_
                  refine AllReady.cons rfl (fun K hK => ?_) ?_
                  · refine anyStoreT hF hB rfl rfl rfl rfl rfl sizeT46 rfl rfl fun a w hF hB => hK _ _ ?_
                    refine wpAny_done (by kernel_rfl) ?_ _
                    exact ⟨rfl, hF.keep [2, 3, 5, 6, 7, 9, 10, 13, 14, 15, 16, 19, 20], hB⟩
                  exact AllReady.nil
                exact AllReady.nil
              refine AllReady.cons rfl (fun K hK => ?_) ?_
              · refine anyNew hF hB rfl rfl rfl rfl (run_alloc_i infoT46) fun a w hF hB => hK _ _ ?_
                refine wpAny_ready (rs := [5]) (by kernel_rfl) (by simp) ?_
                refine AllReady.cons rfl (fun K hK => ?_) ?_
                · refine anyOp hF hB rfl rfl rfl (cCallR2 rfl (.t rfl) (.t rfl) hTk (tabO_olds _ _ _)) fun a w hF hB => hK _ _ ?_
                  refine wpAny_ready (rs := [7]) (by kernel_rfl) (by simp) ?_
                  refine AllReady.cons rfl (fun K hK => ?_) ?_
                  · refine anyStoreT hF hB rfl rfl rfl rfl rfl sizeT46 rfl rfl fun a w hF hB => hK _ _ ?_
                    refine wpAny_done (by kernel_rfl) ?_ _
                    exact ⟨rfl, hF.keep [2, 3, 5, 6, 7, 9, 10, 13, 14, 15, 16, 19, 20], hB⟩
                  exact AllReady.nil
                exact AllReady.nil
              exact AllReady.nil
            refine AllReady.cons rfl (fun K hK => ?_) ?_
            · refine anyNew hF hB rfl rfl rfl rfl (run_alloc_i infoT46) fun a w hF hB => hK _ _ ?_
              refine wpAny_ready (rs := [4]) (by kernel_rfl) (by simp) ?_
              refine AllReady.cons rfl (fun K hK => ?_) ?_
              · refine anyOp hF hB rfl rfl rfl (cCall1 rfl rfl hSO) fun a w hF hB => hK _ _ ?_
                refine wpAny_ready (rs := [5]) (by kernel_rfl) (by simp) ?_
                refine AllReady.cons rfl (fun K hK => ?_) ?_
                · refine anyOp hF hB rfl rfl rfl (cCallR2 rfl (.t rfl) (.t rfl) hTk (tabO_olds _ _ _)) fun a w hF hB => hK _ _ ?_
                  refine wpAny_ready (rs := [7]) (by kernel_rfl) (by simp) ?_
                  refine AllReady.cons rfl (fun K hK => ?_) ?_
                  · refine anyStoreT hF hB rfl rfl rfl rfl rfl sizeT46 rfl rfl fun a w hF hB => hK _ _ ?_
                    refine wpAny_done (by kernel_rfl) ?_ _
                    exact ⟨rfl, hF.keep [2, 3, 5, 6, 7, 9, 10, 13, 14, 15, 16, 19, 20], hB⟩
                  exact AllReady.nil
                exact AllReady.nil
              exact AllReady.nil
            exact AllReady.nil
          refine AllReady.cons rfl (fun K hK => ?_) ?_
          · refine anyNew hF hB rfl rfl rfl rfl (run_alloc_i infoT46) fun a w hF hB => hK _ _ ?_
            refine wpAny_ready (rs := [3]) (by kernel_rfl) (by simp) ?_
            refine AllReady.cons rfl (fun K hK => ?_) ?_
            · refine anyOp hF hB rfl rfl rfl (cBuildT (τs := [Ty.sl 5 1 [.int .u8 122]]) rfl (partsT1 rfl (.t rfl) (Ty.sl_isSl _ _ _)) Try.underlying113 infoB rfl) fun a w hF hB => hK _ _ ?_
              refine wpAny_ready (rs := [4]) (by kernel_rfl) (by simp) ?_
              refine AllReady.cons rfl (fun K hK => ?_) ?_
              · refine anyOp hF hB rfl rfl rfl (cCall1 rfl rfl hSO) fun a w hF hB => hK _ _ ?_
                refine wpAny_ready (rs := [5]) (by kernel_rfl) (by simp) ?_
                refine AllReady.cons rfl (fun K hK => ?_) ?_
                · refine anyOp hF hB rfl rfl rfl (cCallR2 rfl (.t rfl) (.t rfl) hTk (tabO_olds _ _ _)) fun a w hF hB => hK _ _ ?_
                  refine wpAny_ready (rs := [7]) (by kernel_rfl) (by simp) ?_
                  refine AllReady.cons rfl (fun K hK => ?_) ?_
                  · refine anyStoreT hF hB rfl rfl rfl rfl rfl sizeT46 rfl rfl fun a w hF hB => hK _ _ ?_
                    refine wpAny_done (by kernel_rfl) ?_ _
                    exact ⟨rfl, hF.keep [2, 3, 5, 6, 7, 9, 10, 13, 14, 15, 16, 19, 20], hB⟩
                  exact AllReady.nil
                exact AllReady.nil
              exact AllReady.nil
            exact AllReady.nil
          exact AllReady.nil
        refine AllReady.cons rfl (fun K hK => ?_) ?_
        · refine anyNew hF hB rfl rfl rfl rfl (run_alloc_i infoT46) fun a w hF hB => hK _ _ ?_
          refine wpAny_ready (rs := [2]) (by kernel_rfl) (by simp) ?_
          refine AllReady.cons rfl (fun K hK => ?_) ?_
          · refine anyFreeze hF hB rfl rfl rfl rfl Try.underlying70 Try.underlying5 rfl (by decide) rfl fun a w hF hB => hK _ _ ?_
            refine wpAny_ready (rs := [3]) (by kernel_rfl) (by simp) ?_
            refine AllReady.cons rfl (fun K hK => ?_) ?_
            · refine anyOp hF hB rfl rfl rfl (cBuildT (τs := [Ty.sl 5 1 [.int .u8 122]]) rfl (partsT1 rfl (.t rfl) (Ty.sl_isSl _ _ _)) Try.underlying113 infoB rfl) fun a w hF hB => hK _ _ ?_
              refine wpAny_ready (rs := [4]) (by kernel_rfl) (by simp) ?_
              refine AllReady.cons rfl (fun K hK => ?_) ?_
              · refine anyOp hF hB rfl rfl rfl (cCall1 rfl rfl hSO) fun a w hF hB => hK _ _ ?_
                refine wpAny_ready (rs := [5]) (by kernel_rfl) (by simp) ?_
                refine AllReady.cons rfl (fun K hK => ?_) ?_
                · refine anyOp hF hB rfl rfl rfl (cCallR2 rfl (.t rfl) (.t rfl) hTk (tabO_olds _ _ _)) fun a w hF hB => hK _ _ ?_
                  refine wpAny_ready (rs := [7]) (by kernel_rfl) (by simp) ?_
                  refine AllReady.cons rfl (fun K hK => ?_) ?_
                  · refine anyStoreT hF hB rfl rfl rfl rfl rfl sizeT46 rfl rfl fun a w hF hB => hK _ _ ?_
                    refine wpAny_done (by kernel_rfl) ?_ _
                    exact ⟨rfl, hF.keep [2, 3, 5, 6, 7, 9, 10, 13, 14, 15, 16, 19, 20], hB⟩
                  exact AllReady.nil
                exact AllReady.nil
              exact AllReady.nil
            exact AllReady.nil
          exact AllReady.nil
        exact AllReady.nil
      refine AllReady.cons rfl (fun K hK => ?_) ?_
      · refine anyNew hF hB rfl rfl rfl rfl (run_alloc_i infoT46) fun a w hF hB => hK _ _ ?_
        refine wpAny_ready (rs := [1]) (by kernel_rfl) (by simp) ?_
        refine AllReady.cons rfl (fun K hK => ?_) ?_
        · refine anyOp (V := Ty.seg w10 5 1 1 [.int .u8 122]) hF hB rfl rfl rfl (OpOk.conv (cBuildB1 rfl rfl) fun w v h => seg_old hB.size w v h) fun a w hF hB => hK _ _ ?_
          refine wpAny_ready (rs := [2]) (by kernel_rfl) (by simp) ?_
          refine AllReady.cons rfl (fun K hK => ?_) ?_
          · refine anyFreeze hF hB rfl rfl rfl rfl Try.underlying70 Try.underlying5 rfl (by decide) rfl fun a w hF hB => hK _ _ ?_
            refine wpAny_ready (rs := [3]) (by kernel_rfl) (by simp) ?_
            refine AllReady.cons rfl (fun K hK => ?_) ?_
            · refine anyOp hF hB rfl rfl rfl (cBuildT (τs := [Ty.sl 5 1 [.int .u8 122]]) rfl (partsT1 rfl (.t rfl) (Ty.sl_isSl _ _ _)) Try.underlying113 infoB rfl) fun a w hF hB => hK _ _ ?_
              refine wpAny_ready (rs := [4]) (by kernel_rfl) (by simp) ?_
              refine AllReady.cons rfl (fun K hK => ?_) ?_
              · refine anyOp hF hB rfl rfl rfl (cCall1 rfl rfl hSO) fun a w hF hB => hK _ _ ?_
                refine wpAny_ready (rs := [5]) (by kernel_rfl) (by simp) ?_
                refine AllReady.cons rfl (fun K hK => ?_) ?_
                · refine anyOp hF hB rfl rfl rfl (cCallR2 rfl (.t rfl) (.t rfl) hTk (tabO_olds _ _ _)) fun a w hF hB => hK _ _ ?_
                  refine wpAny_ready (rs := [7]) (by kernel_rfl) (by simp) ?_
                  refine AllReady.cons rfl (fun K hK => ?_) ?_
                  · refine anyStoreT hF hB rfl rfl rfl rfl rfl sizeT46 rfl rfl fun a w hF hB => hK _ _ ?_
                    refine wpAny_done (by kernel_rfl) ?_ _
                    exact ⟨rfl, hF.keep [2, 3, 5, 6, 7, 9, 10, 13, 14, 15, 16, 19, 20], hB⟩
                  exact AllReady.nil
                exact AllReady.nil
              exact AllReady.nil
            exact AllReady.nil
          exact AllReady.nil
        exact AllReady.nil
      exact AllReady.nil
    refine AllReady.cons rfl (fun K hK => ?_) ?_
    · refine anyOp (V := Ty.seg w10 5 1 1 [.int .u8 122]) hF hB rfl rfl rfl (OpOk.conv (cBuildB1 rfl rfl) fun w v h => seg_old hB.size w v h) fun a w hF hB => hK _ _ ?_
      refine wpAny_ready (rs := [0, 2, 6]) (by kernel_rfl) (by simp) ?_
      refine AllReady.cons rfl (fun K hK => ?_) ?_
      · refine anyOp hF hB rfl rfl rfl (cLoadTab46 rfl (.l rfl (T3.below h3 hB))) fun a w hF hB => hK _ _ ?_
        refine wpAny_ready (rs := [2, 6]) (by kernel_rfl) (by simp) ?_
        refine AllReady.cons rfl (fun K hK => ?_) ?_
        · refine anyFreeze hF hB rfl rfl rfl rfl Try.underlying70 Try.underlying5 rfl (by decide) rfl fun a w hF hB => hK _ _ ?_
          refine wpAny_ready (rs := [3, 6]) (by kernel_rfl) (by simp) ?_
          refine AllReady.cons rfl (fun K hK => ?_) ?_
          · refine anyOp hF hB rfl rfl rfl (cBuildT (τs := [Ty.sl 5 1 [.int .u8 122]]) rfl (partsT1 rfl (.t rfl) (Ty.sl_isSl _ _ _)) Try.underlying113 infoB rfl) fun a w hF hB => hK _ _ ?_
            refine wpAny_ready (rs := [4, 6]) (by kernel_rfl) (by simp) ?_
            refine AllReady.cons rfl (fun K hK => ?_) ?_
            · refine anyOp hF hB rfl rfl rfl (cCall1 rfl rfl hSO) fun a w hF hB => hK _ _ ?_
              refine wpAny_ready (rs := [5, 6]) (by kernel_rfl) (by simp) ?_
              refine AllReady.cons rfl (fun K hK => ?_) ?_
              · refine anyOp hF hB rfl rfl rfl (cCallR2 rfl (.t rfl) (.t rfl) hTk (tabO_olds _ _ _)) fun a w hF hB => hK _ _ ?_
                refine wpAny_ready (rs := [6]) (by kernel_rfl) (by simp) ?_
                refine AllReady.cons rfl (fun K hK => ?_) ?_
                · refine anyNew hF hB rfl rfl rfl rfl (run_alloc_i infoT46) fun a w hF hB => hK _ _ ?_
                  refine wpAny_ready (rs := [7]) (by kernel_rfl) (by simp) ?_
                  refine AllReady.cons rfl (fun K hK => ?_) ?_
                  · refine anyStoreT hF hB rfl rfl rfl rfl rfl sizeT46 rfl rfl fun a w hF hB => hK _ _ ?_
                    refine wpAny_done (by kernel_rfl) ?_ _
                    exact ⟨rfl, hF.keep [2, 3, 5, 6, 7, 9, 10, 13, 14, 15, 16, 19, 20], hB⟩
                  exact AllReady.nil
                exact AllReady.nil
              refine AllReady.cons rfl (fun K hK => ?_) ?_
              · refine anyNew hF hB rfl rfl rfl rfl (run_alloc_i infoT46) fun a w hF hB => hK _ _ ?_
                refine wpAny_ready (rs := [5]) (by kernel_rfl) (by simp) ?_
                refine AllReady.cons rfl (fun K hK => ?_) ?_
                · refine anyOp hF hB rfl rfl rfl (cCallR2 rfl (.t rfl) (.t rfl) hTk (tabO_olds _ _ _)) fun a w hF hB => hK _ _ ?_
                  refine wpAny_ready (rs := [7]) (by kernel_rfl) (by simp) ?_
                  refine AllReady.cons rfl (fun K hK => ?_) ?_
                  · refine anyStoreT hF hB rfl rfl rfl rfl rfl sizeT46 rfl rfl fun a w hF hB => hK _ _ ?_
                    refine wpAny_done (by kernel_rfl) ?_ _
                    exact ⟨rfl, hF.keep [2, 3, 5, 6, 7, 9, 10, 13, 14, 15, 16, 19, 20], hB⟩
                  exact AllReady.nil
                exact AllReady.nil
              exact AllReady.nil
            refine AllReady.cons rfl (fun K hK => ?_) ?_
            · refine anyNew hF hB rfl rfl rfl rfl (run_alloc_i infoT46) fun a w hF hB => hK _ _ ?_
              refine wpAny_ready (rs := [4]) (by kernel_rfl) (by simp) ?_
              refine AllReady.cons rfl (fun K hK => ?_) ?_
              · refine anyOp hF hB rfl rfl rfl (cCall1 rfl rfl hSO) fun a w hF hB => hK _ _ ?_
                refine wpAny_ready (rs := [5]) (by kernel_rfl) (by simp) ?_
                refine AllReady.cons rfl (fun K hK => ?_) ?_
                · refine anyOp hF hB rfl rfl rfl (cCallR2 rfl (.t rfl) (.t rfl) hTk (tabO_olds _ _ _)) fun a w hF hB => hK _ _ ?_
                  refine wpAny_ready (rs := [7]) (by kernel_rfl) (by simp) ?_
                  refine AllReady.cons rfl (fun K hK => ?_) ?_
                  · refine anyStoreT hF hB rfl rfl rfl rfl rfl sizeT46 rfl rfl fun a w hF hB => hK _ _ ?_
                    refine wpAny_done (by kernel_rfl) ?_ _
                    exact ⟨rfl, hF.keep [2, 3, 5, 6, 7, 9, 10, 13, 14, 15, 16, 19, 20], hB⟩
                  exact AllReady.nil
                exact AllReady.nil
              exact AllReady.nil
            exact AllReady.nil
          refine AllReady.cons rfl (fun K hK => ?_) ?_
          · refine anyNew hF hB rfl rfl rfl rfl (run_alloc_i infoT46) fun a w hF hB => hK _ _ ?_
            refine wpAny_ready (rs := [3]) (by kernel_rfl) (by simp) ?_
            refine AllReady.cons rfl (fun K hK => ?_) ?_
            · refine anyOp hF hB rfl rfl rfl (cBuildT (τs := [Ty.sl 5 1 [.int .u8 122]]) rfl (partsT1 rfl (.t rfl) (Ty.sl_isSl _ _ _)) Try.underlying113 infoB rfl) fun a w hF hB => hK _ _ ?_
              refine wpAny_ready (rs := [4]) (by kernel_rfl) (by simp) ?_
              refine AllReady.cons rfl (fun K hK => ?_) ?_
              · refine anyOp hF hB rfl rfl rfl (cCall1 rfl rfl hSO) fun a w hF hB => hK _ _ ?_
                refine wpAny_ready (rs := [5]) (by kernel_rfl) (by simp) ?_
                refine AllReady.cons rfl (fun K hK => ?_) ?_
                · refine anyOp hF hB rfl rfl rfl (cCallR2 rfl (.t rfl) (.t rfl) hTk (tabO_olds _ _ _)) fun a w hF hB => hK _ _ ?_
                  refine wpAny_ready (rs := [7]) (by kernel_rfl) (by simp) ?_
                  refine AllReady.cons rfl (fun K hK => ?_) ?_
                  · refine anyStoreT hF hB rfl rfl rfl rfl rfl sizeT46 rfl rfl fun a w hF hB => hK _ _ ?_
                    refine wpAny_done (by kernel_rfl) ?_ _
                    exact ⟨rfl, hF.keep [2, 3, 5, 6, 7, 9, 10, 13, 14, 15, 16, 19, 20], hB⟩
                  exact AllReady.nil
                exact AllReady.nil
              exact AllReady.nil
            exact AllReady.nil
          exact AllReady.nil
        refine AllReady.cons rfl (fun K hK => ?_) ?_
        · refine anyNew hF hB rfl rfl rfl rfl (run_alloc_i infoT46) fun a w hF hB => hK _ _ ?_
          refine wpAny_ready (rs := [2]) (by kernel_rfl) (by simp) ?_
          refine AllReady.cons rfl (fun K hK => ?_) ?_
          · refine anyFreeze hF hB rfl rfl rfl rfl Try.underlying70 Try.underlying5 rfl (by decide) rfl fun a w hF hB => hK _ _ ?_
            refine wpAny_ready (rs := [3]) (by kernel_rfl) (by simp) ?_
            refine AllReady.cons rfl (fun K hK => ?_) ?_
            · refine anyOp hF hB rfl rfl rfl (cBuildT (τs := [Ty.sl 5 1 [.int .u8 122]]) rfl (partsT1 rfl (.t rfl) (Ty.sl_isSl _ _ _)) Try.underlying113 infoB rfl) fun a w hF hB => hK _ _ ?_
              refine wpAny_ready (rs := [4]) (by kernel_rfl) (by simp) ?_
              refine AllReady.cons rfl (fun K hK => ?_) ?_
              · refine anyOp hF hB rfl rfl rfl (cCall1 rfl rfl hSO) fun a w hF hB => hK _ _ ?_
                refine wpAny_ready (rs := [5]) (by kernel_rfl) (by simp) ?_
                refine AllReady.cons rfl (fun K hK => ?_) ?_
                · refine anyOp hF hB rfl rfl rfl (cCallR2 rfl (.t rfl) (.t rfl) hTk (tabO_olds _ _ _)) fun a w hF hB => hK _ _ ?_
                  refine wpAny_ready (rs := [7]) (by kernel_rfl) (by simp) ?_
                  refine AllReady.cons rfl (fun K hK => ?_) ?_
                  · refine anyStoreT hF hB rfl rfl rfl rfl rfl sizeT46 rfl rfl fun a w hF hB => hK _ _ ?_
                    refine wpAny_done (by kernel_rfl) ?_ _
                    exact ⟨rfl, hF.keep [2, 3, 5, 6, 7, 9, 10, 13, 14, 15, 16, 19, 20], hB⟩
                  exact AllReady.nil
                exact AllReady.nil
              exact AllReady.nil
            exact AllReady.nil
          exact AllReady.nil
        exact AllReady.nil
      refine AllReady.cons rfl (fun K hK => ?_) ?_
      · refine anyFreeze hF hB rfl rfl rfl rfl Try.underlying70 Try.underlying5 rfl (by decide) rfl fun a w hF hB => hK _ _ ?_
        refine wpAny_ready (rs := [0, 3, 6]) (by kernel_rfl) (by simp) ?_
        refine AllReady.cons rfl (fun K hK => ?_) ?_
        · refine anyOp hF hB rfl rfl rfl (cLoadTab46 rfl (.l rfl (T3.below h3 hB))) fun a w hF hB => hK _ _ ?_
          refine wpAny_ready (rs := [3, 6]) (by kernel_rfl) (by simp) ?_
          refine AllReady.cons rfl (fun K hK => ?_) ?_
          · refine anyOp hF hB rfl rfl rfl (cBuildT (τs := [Ty.sl 5 1 [.int .u8 122]]) rfl (partsT1 rfl (.t rfl) (Ty.sl_isSl _ _ _)) Try.underlying113 infoB rfl) fun a w hF hB => hK _ _ ?_
            refine wpAny_ready (rs := [4, 6]) (by kernel_rfl) (by simp) ?_
            refine AllReady.cons rfl (fun K hK => ?_) ?_
            · refine anyOp hF hB rfl rfl rfl (cCall1 rfl rfl hSO) fun a w hF hB => hK _ _ ?_
              refine wpAny_ready (rs := [5, 6]) (by kernel_rfl) (by simp) ?_
              refine AllReady.cons rfl (fun K hK => ?_) ?_
              · refine anyOp hF hB rfl rfl rfl (cCallR2 rfl (.t rfl) (.t rfl) hTk (tabO_olds _ _ _)) fun a w hF hB => hK _ _ ?_
                refine wpAny_ready (rs := [6]) (by kernel_rfl) (by simp) ?_
                refine AllReady.cons rfl (fun K hK => ?_) ?_
                · refine anyNew hF hB rfl rfl rfl rfl (run_alloc_i infoT46) fun a w hF hB => hK _ _ ?_
                  refine wpAny_ready (rs := [7]) (by kernel_rfl) (by simp) ?_
                  refine AllReady.cons rfl (fun K hK => ?_) ?_
                  · refine anyStoreT hF hB rfl rfl rfl rfl rfl sizeT46 rfl rfl fun a w hF hB => hK _ _ ?_
                    refine wpAny_done (by kernel_rfl) ?_ _
                    exact ⟨rfl, hF.keep [2, 3, 5, 6, 7, 9, 10, 13, 14, 15, 16, 19, 20], hB⟩
                  exact AllReady.nil
                exact AllReady.nil
              refine AllReady.cons rfl (fun K hK => ?_) ?_
              · refine anyNew hF hB rfl rfl rfl rfl (run_alloc_i infoT46) fun a w hF hB => hK _ _ ?_
                refine wpAny_ready (rs := [5]) (by kernel_rfl) (by simp) ?_
                refine AllReady.cons rfl (fun K hK => ?_) ?_
                · refine anyOp hF hB rfl rfl rfl (cCallR2 rfl (.t rfl) (.t rfl) hTk (tabO_olds _ _ _)) fun a w hF hB => hK _ _ ?_
                  refine wpAny_ready (rs := [7]) (by kernel_rfl) (by simp) ?_
                  refine AllReady.cons rfl (fun K hK => ?_) ?_
                  · refine anyStoreT hF hB rfl rfl rfl rfl rfl sizeT46 rfl rfl fun a w hF hB => hK _ _ ?_
                    refine wpAny_done (by kernel_rfl) ?_ _
                    exact ⟨rfl, hF.keep [2, 3, 5, 6, 7, 9, 10, 13, 14, 15, 16, 19, 20], hB⟩
                  exact AllReady.nil
                exact AllReady.nil
              exact AllReady.nil
            refine AllReady.cons rfl (fun K hK => ?_) ?_
            · refine anyNew hF hB rfl rfl rfl rfl (run_alloc_i infoT46) fun a w hF hB => hK _ _ ?_
              refine wpAny_ready (rs := [4]) (by kernel_rfl) (by simp) ?_
              refine AllReady.cons rfl (fun K hK => ?_) ?_
              · refine anyOp hF hB rfl rfl rfl (cCall1 rfl rfl hSO) fun a w hF hB => hK _ _ ?_
                refine wpAny_ready (rs := [5]) (by kernel_rfl) (by simp) ?_
                refine AllReady.cons rfl (fun K hK => ?_) ?_
                · refine anyOp hF hB rfl rfl rfl (cCallR2 rfl (.t rfl) (.t rfl) hTk (tabO_olds _ _ _)) fun a w hF hB => hK _ _ ?_
                  refine wpAny_ready (rs := [7]) (by kernel_rfl) (by simp) ?_
                  refine AllReady.cons rfl (fun K hK => ?_) ?_
                  · refine anyStoreT hF hB rfl rfl rfl rfl rfl sizeT46 rfl rfl fun a w hF hB => hK _ _ ?_
                    refine wpAny_done (by kernel_rfl) ?_ _
                    exact ⟨rfl, hF.keep [2, 3, 5, 6, 7, 9, 10, 13, 14, 15, 16, 19, 20], hB⟩
                  exact AllReady.nil
                exact AllReady.nil
              exact AllReady.nil
            exact AllReady.nil
          refine AllReady.cons rfl (fun K hK => ?_) ?_
          · refine anyNew hF hB rfl rfl rfl rfl (run_alloc_i infoT46) fun a w hF hB => hK _ _ ?_
            refine wpAny_ready (rs := [3]) (by kernel_rfl) (by simp) ?_
            refine AllReady.cons rfl (fun K hK => ?_) ?_
            · refine anyOp hF hB rfl rfl rfl (cBuildT (τs := [Ty.sl 5 1 [.int .u8 122]]) rfl (partsT1 rfl (.t rfl) (Ty.sl_isSl _ _ _)) Try.underlying113 infoB rfl) fun a w hF hB => hK _ _ ?_
              refine wpAny_ready (rs := [4]) (by kernel_rfl) (by simp) ?_
              refine AllReady.cons rfl (fun K hK => ?_) ?_
              · refine anyOp hF hB rfl rfl rfl (cCall1 rfl rfl hSO) fun a w hF hB => hK _ _ ?_
                refine wpAny_ready (rs := [5]) (by kernel_rfl) (by simp) ?_
                refine AllReady.cons rfl (fun K hK => ?_) ?_
                · refine anyOp hF hB rfl rfl rfl (cCallR2 rfl (.t rfl) (.t rfl) hTk (tabO_olds _ _ _)) fun a w hF hB => hK _ _ ?_
                  refine wpAny_ready (rs := [7]) (by kernel_rfl) (by simp) ?_
                  refine AllReady.cons rfl (fun K hK => ?_) ?_
                  · refine anyStoreT hF hB rfl rfl rfl rfl rfl sizeT46 rfl rfl fun a w hF hB => hK _ _ ?_
                    refine wpAny_done (by kernel_rfl) ?_ _
                    exact ⟨rfl, hF.keep [2, 3, 5, 6, 7, 9, 10, 13, 14, 15, 16, 19, 20], hB⟩
                  exact AllReady.nil
                exact AllReady.nil
              exact AllReady.nil
            exact AllReady.nil
          exact AllReady.nil
        refine AllReady.cons rfl (fun K hK => ?_) ?_
        · refine anyOp hF hB rfl rfl rfl (cBuildT (τs := [Ty.sl 5 1 [.int .u8 122]]) rfl (partsT1 rfl (.t rfl) (Ty.sl_isSl _ _ _)) Try.underlying113 infoB rfl) fun a w hF hB => hK _ _ ?_
          refine wpAny_ready (rs := [0, 4, 6]) (by kernel_rfl) (by simp) ?_
          refine AllReady.cons rfl (fun K hK => ?_) ?_
          · refine anyOp hF hB rfl rfl rfl (cLoadTab46 rfl (.l rfl (T3.below h3 hB))) fun a w hF hB => hK _ _ ?_
            refine wpAny_ready (rs := [4, 6]) (by kernel_rfl) (by simp) ?_
            refine AllReady.cons rfl (fun K hK => ?_) ?_
            · refine anyOp hF hB rfl rfl rfl (cCall1 rfl rfl hSO) fun a w hF hB => hK _ _ ?_
              refine wpAny_ready (rs := [5, 6]) (by kernel_rfl) (by simp) ?_
              refine AllReady.cons rfl (fun K hK => ?_) ?_
              · refine anyOp hF hB rfl rfl rfl (cCallR2 rfl (.t rfl) (.t rfl) hTk (tabO_olds _ _ _)) fun a w hF hB => hK _ _ ?_
                refine wpAny_ready (rs := [6]) (by kernel_rfl) (by simp) ?_
                refine AllReady.cons rfl (fun K hK => ?_) ?_
                · refine anyNew hF hB rfl rfl rfl rfl (run_alloc_i infoT46) fun a w hF hB => hK _ _ ?_
                  refine wpAny_ready (rs := [7]) (by kernel_rfl) (by simp) ?_
                  refine AllReady.cons rfl (fun K hK => ?_) ?_
                  · refine anyStoreT hF hB rfl rfl rfl rfl rfl sizeT46 rfl rfl fun a w hF hB => hK _ _ ?_
                    refine wpAny_done (by kernel_rfl) ?_ _
                    exact ⟨rfl, hF.keep [2, 3, 5, 6, 7, 9, 10, 13, 14, 15, 16, 19, 20], hB⟩
                  exact AllReady.nil
                exact AllReady.nil
              refine AllReady.cons rfl (fun K hK => ?_) ?_
              · refine anyNew hF hB rfl rfl rfl rfl (run_alloc_i infoT46) fun a w hF hB => hK _ _ ?_
                refine wpAny_ready (rs := [5]) (by kernel_rfl) (by simp) ?_
                refine AllReady.cons rfl (fun K hK => ?_) ?_
                · refine anyOp hF hB rfl rfl rfl (cCallR2 rfl (.t rfl) (.t rfl) hTk (tabO_olds _ _ _)) fun a w hF hB => hK _ _ ?_
                  refine wpAny_ready (rs := [7]) (by kernel_rfl) (by simp) ?_
                  refine AllReady.cons rfl (fun K hK => ?_) ?_
                  · refine anyStoreT hF hB rfl rfl rfl rfl rfl sizeT46 rfl rfl fun a w hF hB => hK _ _ ?_
                    refine wpAny_done (by kernel_rfl) ?_ _
                    exact ⟨rfl, hF.keep [2, 3, 5, 6, 7, 9, 10, 13, 14, 15, 16, 19, 20], hB⟩
                  exact AllReady.nil
                exact AllReady.nil
              exact AllReady.nil
            refine AllReady.cons rfl (fun K hK => ?_) ?_
            · refine anyNew hF hB rfl rfl rfl rfl (run_alloc_i infoT46) fun a w hF hB => hK _ _ ?_
              refine wpAny_ready (rs := [4]) (by kernel_rfl) (by simp) ?_
              refine AllReady.cons rfl (fun K hK => ?_) ?_
              · refine anyOp hF hB rfl rfl rfl (cCall1 rfl rfl hSO) fun a w hF hB => hK _ _ ?_
                refine wpAny_ready (rs := [5]) (by kernel_rfl) (by simp) ?_
                refine AllReady.cons rfl (fun K hK => ?_) ?_
                · refine anyOp hF hB rfl rfl rfl (cCallR2 rfl (.t rfl) (.t rfl) hTk (tabO_olds _ _ _)) fun a w hF hB => hK _ _ ?_
                  refine wpAny_ready (rs := [7]) (by kernel_rfl) (by simp) ?_
                  refine AllReady.cons rfl (fun K hK => ?_) ?_
                  · refine anyStoreT hF hB rfl rfl rfl rfl rfl sizeT46 rfl rfl fun a w hF hB => hK _ _ ?_
                    refine wpAny_done (by kernel_rfl) ?_ _
                    exact ⟨rfl, hF.keep [2, 3, 5, 6, 7, 9, 10, 13, 14, 15, 16, 19, 20], hB⟩
                  exact AllReady.nil
                exact AllReady.nil
              exact AllReady.nil
            exact AllReady.nil
          refine AllReady.cons rfl (fun K hK => ?_) ?_
          · refine anyOp hF hB rfl rfl rfl (cCall1 rfl rfl hSO) fun a w hF hB => hK _ _ ?_
            refine wpAny_ready (rs := [0, 6]) (by kernel_rfl) (by simp) ?_
            refine AllReady.cons rfl (fun K hK => ?_) ?_
            · refine anyOp hF hB rfl rfl rfl (cLoadTab46 rfl (.l rfl (T3.below h3 hB))) fun a w hF hB => hK _ _ ?_
              refine wpAny_ready (rs := [5, 6]) (by kernel_rfl) (by simp) ?_
              refine AllReady.cons rfl (fun K hK => ?_) ?_
              · refine anyOp hF hB rfl rfl rfl (cCallR2 rfl (.t rfl) (.t rfl) hTk (tabO_olds _ _ _)) fun a w hF hB => hK _ _ ?_
                refine wpAny_ready (rs := [6]) (by kernel_rfl) (by simp) ?_
                refine AllReady.cons rfl (fun K hK => ?_) ?_
                · refine anyNew hF hB rfl rfl rfl rfl (run_alloc_i infoT46) fun a w hF hB => hK _ _ ?_
                  refine wpAny_ready (rs := [7]) (by kernel_rfl) (by simp) ?_
                  refine AllReady.cons rfl (fun K hK => ?_) ?_
                  · refine anyStoreT hF hB rfl rfl rfl rfl rfl sizeT46 rfl rfl fun a w hF hB => hK _ _ ?_
                    refine wpAny_done (by kernel_rfl) ?_ _
                    exact ⟨rfl, hF.keep [2, 3, 5, 6, 7, 9, 10, 13, 14, 15, 16, 19, 20], hB⟩
                  exact AllReady.nil
                exact AllReady.nil
              refine AllReady.cons rfl (fun K hK => ?_) ?_
              · refine anyNew hF hB rfl rfl rfl rfl (run_alloc_i infoT46) fun a w hF hB => hK _ _ ?_
                refine wpAny_ready (rs := [5]) (by kernel_rfl) (by simp) ?_
                refine AllReady.cons rfl (fun K hK => ?_) ?_
                · refine anyOp hF hB rfl rfl rfl (cCallR2 rfl (.t rfl) (.t rfl) hTk (tabO_olds _ _ _)) fun a w hF hB => hK _ _ ?_
                  refine wpAny_ready (rs := [7]) (by kernel_rfl) (by simp) ?_
                  refine AllReady.cons rfl (fun K hK => ?_) ?_
                  · refine anyStoreT hF hB rfl rfl rfl rfl rfl sizeT46 rfl rfl fun a w hF hB => hK _ _ ?_
                    refine wpAny_done (by kernel_rfl) ?_ _
                    exact ⟨rfl, hF.keep [2, 3, 5, 6, 7, 9, 10, 13, 14, 15, 16, 19, 20], hB⟩
                  exact AllReady.nil
                exact AllReady.nil
              exact AllReady.nil
            refine AllReady.cons rfl (fun K hK => ?_) ?_
            · refine anyNew hF hB rfl rfl rfl rfl (run_alloc_i infoT46) fun a w hF hB => hK _ _ ?_
              refine wpAny_ready (rs := [0]) (by kernel_rfl) (by simp) ?_
              refine AllReady.cons rfl (fun K hK => ?_) ?_
              · refine anyOp hF hB rfl rfl rfl (cLoadTab46 rfl (.l rfl (T3.below h3 hB))) fun a w hF hB => hK _ _ ?_
                refine wpAny_ready (rs := [5]) (by kernel_rfl) (by simp) ?_
                refine AllReady.cons rfl (fun K hK => ?_) ?_
                · refine anyOp hF hB rfl rfl rfl (cCallR2 rfl (.t rfl) (.t rfl) hTk (tabO_olds _ _ _)) fun a w hF hB => hK _ _ ?_
                  refine wpAny_ready (rs := [7]) (by kernel_rfl) (by simp) ?_
                  refine AllReady.cons rfl (fun K hK => ?_) ?_
                  · refine anyStoreT hF hB rfl rfl rfl rfl rfl sizeT46 rfl rfl fun a w hF hB => hK _ _ ?_
                    refine wpAny_done (by kernel_rfl) ?_ _
                    exact ⟨rfl, hF.keep [2, 3, 5, 6, 7, 9, 10, 13, 14, 15, 16, 19, 20], hB⟩
                  exact AllReady.nil
                exact AllReady.nil
              exact AllReady.nil
            exact AllReady.nil
          refine AllReady.cons rfl (fun K hK => ?_) ?_
          · refine anyNew hF hB rfl rfl rfl rfl (run_alloc_i infoT46) fun a w hF hB => hK _ _ ?_
            refine wpAny_ready (rs := [0, 4]) (by kernel_rfl) (by simp) ?_
            refine AllReady.cons rfl (fun K hK => ?_) ?_
            · refine anyOp hF hB rfl rfl rfl (cLoadTab46 rfl (.l rfl (T3.below h3 hB))) fun a w hF hB => hK _ _ ?_
              refine wpAny_ready (rs := [4]) (by kernel_rfl) (by simp) ?_
              refine AllReady.cons rfl (fun K hK => ?_) ?_
              · refine anyOp hF hB rfl rfl rfl (cCall1 rfl rfl hSO) fun a w hF hB => hK _ _ ?_
                refine wpAny_ready (rs := [5]) (by kernel_rfl) (by simp) ?_
                refine AllReady.cons rfl (fun K hK => ?_) ?_
                · refine anyOp hF hB rfl rfl rfl (cCallR2 rfl (.t rfl) (.t rfl) hTk (tabO_olds _ _ _)) fun a w hF hB => hK _ _ ?_
                  refine wpAny_ready (rs := [7]) (by kernel_rfl) (by simp) ?_
                  refine AllReady.cons rfl (fun K hK => ?_) ?_
                  · refine anyStoreT hF hB rfl rfl rfl rfl rfl sizeT46 rfl rfl fun a w hF hB => hK _ _ ?_
                    refine wpAny_done (by kernel_rfl) ?_ _
                    exact ⟨rfl, hF.keep [2, 3, 5, 6, 7, 9, 10, 13, 14, 15, 16, 19, 20], hB⟩
                  exact AllReady.nil
                exact AllReady.nil
              exact AllReady.nil
            refine AllReady.cons rfl (fun K hK => ?_) ?_
            · refine anyOp hF hB rfl rfl rfl (cCall1 rfl rfl hSO) fun a w hF hB => hK _ _ ?_
              refine wpAny_ready (rs := [0]) (by kernel_rfl) (by simp) ?_
              refine AllReady.cons rfl (fun K hK => ?_) ?_
              · refine anyOp hF hB rfl rfl rfl (cLoadTab46 rfl (.l rfl (T3.below h3 hB))) fun a w hF hB => hK _ _ ?_
                refine wpAny_ready (rs := [5]) (by kernel_rfl) (by simp) ?_
                refine AllReady.cons rfl (fun K hK => ?_) ?_
                · refine anyOp hF hB rfl rfl rfl (cCallR2 rfl (.t rfl) (.t rfl) hTk (tabO_olds _ _ _)) fun a w hF hB => hK _ _ ?_
                  refine wpAny_ready (rs := [7]) (by kernel_rfl) (by simp) ?_
                  refine AllReady.cons rfl (fun K hK => ?_) ?_
                  · refine anyStoreT hF hB rfl rfl rfl rfl rfl sizeT46 rfl rfl fun a w hF hB => hK _ _ ?_
                    refine wpAny_done (by kernel_rfl) ?_ _
                    exact ⟨rfl, hF.keep [2, 3, 5, 6, 7, 9, 10, 13, 14, 15, 16, 19, 20], hB⟩
                  exact AllReady.nil
                exact AllReady.nil
              exact AllReady.nil
            exact AllReady.nil
          exact AllReady.nil
        refine AllReady.cons rfl (fun K hK => ?_) ?_
        · refine anyNew hF hB rfl rfl rfl rfl (run_alloc_i infoT46) fun a w hF hB => hK _ _ ?_
          refine wpAny_ready (rs := [0, 3]) (by kernel_rfl) (by simp) ?_
          refine AllReady.cons rfl (fun K hK => ?_) ?_
          · refine anyOp hF hB rfl rfl rfl (cLoadTab46 rfl (.l rfl (T3.below h3 hB))) fun a w hF hB => hK _ _ ?_
            refine wpAny_ready (rs := [3]) (by kernel_rfl) (by simp) ?_
            refine AllReady.cons rfl (fun K hK => ?_) ?_
            · refine anyOp hF hB rfl rfl rfl (cBuildT (τs := [Ty.sl 5 1 [.int .u8 122]]) rfl (partsT1 rfl (.t rfl) (Ty.sl_isSl _ _ _)) Try.underlying113 infoB rfl) fun a w hF hB => hK _ _ ?_
              refine wpAny_ready (rs := [4]) (by kernel_rfl) (by simp) ?_
              refine AllReady.cons rfl (fun K hK => ?_) ?_
              · refine anyOp hF hB rfl rfl rfl (cCall1 rfl rfl hSO) fun a w hF hB => hK _ _ ?_
                refine wpAny_ready (rs := [5]) (by kernel_rfl) (by simp) ?_
                refine AllReady.cons rfl (fun K hK => ?_) ?_
                · refine anyOp hF hB rfl rfl rfl (cCallR2 rfl (.t rfl) (.t rfl) hTk (tabO_olds _ _ _)) fun a w hF hB => hK _ _ ?_
                  refine wpAny_ready (rs := [7]) (by kernel_rfl) (by simp) ?_
                  refine AllReady.cons rfl (fun K hK => ?_) ?_
                  · refine anyStoreT hF hB rfl rfl rfl rfl rfl sizeT46 rfl rfl fun a w hF hB => hK _ _ ?_
                    refine wpAny_done (by kernel_rfl) ?_ _
                    exact ⟨rfl, hF.keep [2, 3, 5, 6, 7, 9, 10, 13, 14, 15, 16, 19, 20], hB⟩
                  exact AllReady.nil
                exact AllReady.nil
              exact AllReady.nil
            exact AllReady.nil
          refine AllReady.cons rfl (fun K hK => ?_) ?_
          · refine anyOp hF hB rfl rfl rfl (cBuildT (τs := [Ty.sl 5 1 [.int .u8 122]]) rfl (partsT1 rfl (.t rfl) (Ty.sl_isSl _ _ _)) Try.underlying113 infoB rfl) fun a w hF hB => hK _ _ ?_
            refine wpAny_ready (rs := [0, 4]) (by kernel_rfl) (by simp) ?_
            refine AllReady.cons rfl (fun K hK => ?_) ?_
            · refine anyOp hF hB rfl rfl rfl (cLoadTab46 rfl (.l rfl (T3.below h3 hB))) fun a w hF hB => hK _ _ ?_
              refine wpAny_ready (rs := [4]) (by kernel_rfl) (by simp) ?_
              refine AllReady.cons rfl (fun K hK => ?_) ?_
              · refine anyOp hF hB rfl rfl rfl (cCall1 rfl rfl hSO) fun a w hF hB => hK _ _ ?_
                refine wpAny_ready (rs := [5]) (by kernel_rfl) (by simp) ?_
                refine AllReady.cons rfl (fun K hK => ?_) ?_
                · refine anyOp hF hB rfl rfl rfl (cCallR2 rfl (.t rfl) (.t rfl) hTk (tabO_olds _ _ _)) fun a w hF hB => hK _ _ ?_
                  refine wpAny_ready (rs := [7]) (by kernel_rfl) (by simp) ?_
                  refine AllReady.cons rfl (fun K hK => ?_) ?_
                  · refine anyStoreT hF hB rfl rfl rfl rfl rfl sizeT46 rfl rfl fun a w hF hB => hK _ _ ?_
                    refine wpAny_done (by kernel_rfl) ?_ _
                    exact ⟨rfl, hF.keep [2, 3, 5, 6, 7, 9, 10, 13, 14, 15, 16, 19, 20], hB⟩
                  exact AllReady.nil
                exact AllReady.nil
              exact AllReady.nil
            refine AllReady.cons rfl (fun K hK => ?_) ?_
            · refine anyOp hF hB rfl rfl rfl (cCall1 rfl rfl hSO) fun a w hF hB => hK _ _ ?_
              refine wpAny_ready (rs := [0]) (by kernel_rfl) (by simp) ?_
              refine AllReady.cons rfl (fun K hK => ?_) ?_
              · refine anyOp hF hB rfl rfl rfl (cLoadTab46 rfl (.l rfl (T3.below h3 hB))) fun a w hF hB => hK _ _ ?_
                refine wpAny_ready (rs := [5]) (by kernel_rfl) (by simp) ?_
                refine AllReady.cons rfl (fun K hK => ?_) ?_
                · refine anyOp hF hB rfl rfl rfl (cCallR2 rfl (.t rfl) (.t rfl) hTk (tabO_olds _ _ _)) fun a w hF hB => hK _ _ ?_
                  refine wpAny_ready (rs := [7]) (by kernel_rfl) (by simp) ?_
                  refine AllReady.cons rfl (fun K hK => ?_) ?_
                  · refine anyStoreT hF hB rfl rfl rfl rfl rfl sizeT46 rfl rfl fun a w hF hB => hK _ _ ?_
                    refine wpAny_done (by kernel_rfl) ?_ _
                    exact ⟨rfl, hF.keep [2, 3, 5, 6, 7, 9, 10, 13, 14, 15, 16, 19, 20], hB⟩
                  exact AllReady.nil
                exact AllReady.nil
              exact AllReady.nil
            exact AllReady.nil
          exact AllReady.nil
        exact AllReady.nil
      refine AllReady.cons rfl (fun K hK => ?_) ?_
      · refine anyNew hF hB rfl rfl rfl rfl (run_alloc_i infoT46) fun a w hF hB => hK _ _ ?_
        refine wpAny_ready (rs := [0, 2]) (by kernel_rfl) (by simp) ?_
        refine AllReady.cons rfl (fun K hK => ?_) ?_
        · refine anyOp hF hB rfl rfl rfl (cLoadTab46 rfl (.l rfl (T3.below h3 hB))) fun a w hF hB => hK _ _ ?_
          refine wpAny_ready (rs := [2]) (by kernel_rfl) (by simp) ?_
          refine AllReady.cons rfl (fun K hK => ?_) ?_
          · refine anyFreeze hF hB rfl rfl rfl rfl Try.underlying70 Try.underlying5 rfl (by decide) rfl fun a w hF hB => hK _ _ ?_
            refine wpAny_ready (rs := [3]) (by kernel_rfl) (by simp) ?_
            refine AllReady.cons rfl (fun K hK => ?_) ?_
            · refine anyOp hF hB rfl rfl rfl (cBuildT (τs := [Ty.sl 5 1 [.int .u8 122]]) rfl (partsT1 rfl (.t rfl) (Ty.sl_isSl _ _ _)) Try.underlying113 infoB rfl) fun a w hF hB => hK _ _ ?_
              refine wpAny_ready (rs := [4]) (by kernel_rfl) (by simp) ?_
              refine AllReady.cons rfl (fun K hK => ?_) ?_
              · refine anyOp hF hB rfl rfl rfl (cCall1 rfl rfl hSO) fun a w hF hB => hK _ _ ?_
                refine wpAny_ready (rs := [5]) (by kernel_rfl) (by simp) ?_
                refine AllReady.cons rfl (fun K hK => ?_) ?_
                · refine anyOp hF hB rfl rfl rfl (cCallR2 rfl (.t rfl) (.t rfl) hTk (tabO_olds _ _ _)) fun a w hF hB => hK _ _ ?_
                  refine wpAny_ready (rs := [7]) (by kernel_rfl) (by simp) ?_
                  refine AllReady.cons rfl (fun K hK => ?_) ?_
                  · refine anyStoreT hF hB rfl rfl rfl rfl rfl sizeT46 rfl rfl fun a w hF hB => hK _ _ ?_
                    refine wpAny_done (by kernel_rfl) ?_ _
                    exact ⟨rfl, hF.keep [2, 3, 5, 6, 7, 9, 10, 13, 14, 15, 16, 19, 20], hB⟩
                  exact AllReady.nil
                exact AllReady.nil
              exact AllReady.nil
            exact AllReady.nil
          exact AllReady.nil
        refine AllReady.cons rfl (fun K hK => ?_) ?_
        · refine anyFreeze hF hB rfl rfl rfl rfl Try.underlying70 Try.underlying5 rfl (by decide) rfl fun a w hF hB => hK _ _ ?_
          refine wpAny_ready (rs := [0, 3]) (by kernel_rfl) (by simp) ?_
          refine AllReady.cons rfl (fun K hK => ?_) ?_
          · refine anyOp hF hB rfl rfl rfl (cLoadTab46 rfl (.l rfl (T3.below h3 hB))) fun a w hF hB => hK _ _ ?_
            refine wpAny_ready (rs := [3]) (by kernel_rfl) (by simp) ?_
            refine AllReady.cons rfl (fun K hK => ?_) ?_
            · refine anyOp hF hB rfl rfl rfl (cBuildT (τs := [Ty.sl 5 1 [.int .u8 122]]) rfl (partsT1 rfl (.t rfl) (Ty.sl_isSl _ _ _)) Try.underlying113 infoB rfl) fun a w hF hB => hK _ _ ?_
              refine wpAny_ready (rs := [4]) (by kernel_rfl) (by simp) ?_
              refine AllReady.cons rfl (fun K hK => ?_) ?_
              · refine anyOp hF hB rfl rfl rfl (cCall1 rfl rfl hSO) fun a w hF hB => hK _ _ ?_
                refine wpAny_ready (rs := [5]) (by kernel_rfl) (by simp) ?_
                refine AllReady.cons rfl (fun K hK => ?_) ?_
                · refine anyOp hF hB rfl rfl rfl (cCallR2 rfl (.t rfl) (.t rfl) hTk (tabO_olds _ _ _)) fun a w hF hB => hK _ _ ?_
                  refine wpAny_ready (rs := [7]) (by kernel_rfl) (by simp) ?_
                  refine AllReady.cons rfl (fun K hK => ?_) ?_
                  · refine anyStoreT hF hB rfl rfl rfl rfl rfl sizeT46 rfl rfl fun a w hF hB => hK _ _ ?_
                    refine wpAny_done (by kernel_rfl) ?_ _
                    exact ⟨rfl, hF.keep [2, 3, 5, 6, 7, 9, 10, 13, 14, 15, 16, 19, 20], hB⟩
                  exact AllReady.nil
                exact AllReady.nil
              exact AllReady.nil
            exact AllReady.nil
          refine AllReady.cons rfl (fun K hK => ?_) ?_
          · refine anyOp hF hB rfl rfl rfl (cBuildT (τs := [Ty.sl 5 1 [.int .u8 122]]) rfl (partsT1 rfl (.t rfl) (Ty.sl_isSl _ _ _)) Try.underlying113 infoB rfl) fun a w hF hB => hK _ _ ?_
            refine wpAny_ready (rs := [0, 4]) (by kernel_rfl) (by simp) ?_
            refine AllReady.cons rfl (fun K hK => ?_) ?_
            · refine anyOp hF hB rfl rfl rfl (cLoadTab46 rfl (.l rfl (T3.below h3 hB))) fun a w hF hB => hK _ _ ?_
              refine wpAny_ready (rs := [4]) (by kernel_rfl) (by simp) ?_
              refine AllReady.cons rfl (fun K hK => ?_) ?_
              · refine anyOp hF hB rfl rfl rfl (cCall1 rfl rfl hSO) fun a w hF hB => hK _ _ ?_
                refine wpAny_ready (rs := [5]) (by kernel_rfl) (by simp) ?_
                refine AllReady.cons rfl (fun K hK => ?_) ?_
                · refine anyOp hF hB rfl rfl rfl (cCallR2 rfl (.t rfl) (.t rfl) hTk (tabO_olds _ _ _)) fun a w hF hB => hK _ _ ?_
                  refine wpAny_ready (rs := [7]) (by kernel_rfl) (by simp) ?_
                  refine AllReady.cons rfl (fun K hK => ?_) ?_
                  · refine anyStoreT hF hB rfl rfl rfl rfl rfl sizeT46 rfl rfl fun a w hF hB => hK _ _ ?_
                    refine wpAny_done (by kernel_rfl) ?_ _
                    exact ⟨rfl, hF.keep [2, 3, 5, 6, 7, 9, 10, 13, 14, 15, 16, 19, 20], hB⟩
                  exact AllReady.nil
                exact AllReady.nil
              exact AllReady.nil
            refine AllReady.cons rfl (fun K hK => ?_) ?_
            · refine anyOp hF hB rfl rfl rfl (cCall1 rfl rfl hSO) fun a w hF hB => hK _ _ ?_
              refine wpAny_ready (rs := [0]) (by kernel_rfl) (by simp) ?_
              refine AllReady.cons rfl (fun K hK => ?_) ?_
              · refine anyOp hF hB rfl rfl rfl (cLoadTab46 rfl (.l rfl (T3.below h3 hB))) fun a w hF hB => hK _ _ ?_
                refine wpAny_ready (rs := [5]) (by kernel_rfl) (by simp) ?_
                refine AllReady.cons rfl (fun K hK => ?_) ?_
                · refine anyOp hF hB rfl rfl rfl (cCallR2 rfl (.t rfl) (.t rfl) hTk (tabO_olds _ _ _)) fun a w hF hB => hK _ _ ?_
                  refine wpAny_ready (rs := [7]) (by kernel_rfl) (by simp) ?_
                  refine AllReady.cons rfl (fun K hK => ?_) ?_
                  · refine anyStoreT hF hB rfl rfl rfl rfl rfl sizeT46 rfl rfl fun a w hF hB => hK _ _ ?_
                    refine wpAny_done (by kernel_rfl) ?_ _
                    exact ⟨rfl, hF.keep [2, 3, 5, 6, 7, 9, 10, 13, 14, 15, 16, 19, 20], hB⟩
                  exact AllReady.nil
                exact AllReady.nil
              exact AllReady.nil
            exact AllReady.nil
          exact AllReady.nil
        exact AllReady.nil
      exact AllReady.nil
    refine AllReady.cons rfl (fun K hK => ?_) ?_
    · refine anyNew hF hB rfl rfl rfl rfl (run_alloc_i infoT46) fun a w hF hB => hK _ _ ?_
      refine wpAny_ready (rs := [0, 1]) (by kernel_rfl) (by simp) ?_
      refine AllReady.cons rfl (fun K hK => ?_) ?_
      · refine anyOp hF hB rfl rfl rfl (cLoadTab46 rfl (.l rfl (T3.below h3 hB))) fun a w hF hB => hK _ _ ?_
        refine wpAny_ready (rs := [1]) (by kernel_rfl) (by simp) ?_
        refine AllReady.cons rfl (fun K hK => ?_) ?_
        · refine anyOp (V := Ty.seg w10 5 1 1 [.int .u8 122]) hF hB rfl rfl rfl (OpOk.conv (cBuildB1 rfl rfl) fun w v h => seg_old hB.size w v h) fun a w hF hB => hK _ _ ?_
          refine wpAny_ready (rs := [2]) (by kernel_rfl) (by simp) ?_
          refine AllReady.cons rfl (fun K hK => ?_) ?_
          · refine anyFreeze hF hB rfl rfl rfl rfl Try.underlying70 Try.underlying5 rfl (by decide) rfl fun a w hF hB => hK _ _ ?_
            refine wpAny_ready (rs := [3]) (by kernel_rfl) (by simp) ?_
            refine AllReady.cons rfl (fun K hK => ?_) ?_
            · refine anyOp hF hB rfl rfl rfl (cBuildT (τs := [Ty.sl 5 1 [.int .u8 122]]) rfl (partsT1 rfl (.t rfl) (Ty.sl_isSl _ _ _)) Try.underlying113 infoB rfl) fun a w hF hB => hK _ _ ?_
              refine wpAny_ready (rs := [4]) (by kernel_rfl) (by simp) ?_
              refine AllReady.cons rfl (fun K hK => ?_) ?_
              · refine anyOp hF hB rfl rfl rfl (cCall1 rfl rfl hSO) fun a w hF hB => hK _ _ ?_
                refine wpAny_ready (rs := [5]) (by kernel_rfl) (by simp) ?_
                refine AllReady.cons rfl (fun K hK => ?_) ?_
                · refine anyOp hF hB rfl rfl rfl (cCallR2 rfl (.t rfl) (.t rfl) hTk (tabO_olds _ _ _)) fun a w hF hB => hK _ _ ?_
                  refine wpAny_ready (rs := [7]) (by kernel_rfl) (by simp) ?_
                  refine AllReady.cons rfl (fun K hK => ?_) ?_
                  · refine anyStoreT hF hB rfl rfl rfl rfl rfl sizeT46 rfl rfl fun a w hF hB => hK _ _ ?_
                    refine wpAny_done (by kernel_rfl) ?_ _
                    exact ⟨rfl, hF.keep [2, 3, 5, 6, 7, 9, 10, 13, 14, 15, 16, 19, 20], hB⟩
                  exact AllReady.nil
                exact AllReady.nil
              exact AllReady.nil
            exact AllReady.nil
          exact AllReady.nil
        exact AllReady.nil
      refine AllReady.cons rfl (fun K hK => ?_) ?_
      · refine anyOp (V := Ty.seg w10 5 1 1 [.int .u8 122]) hF hB rfl rfl rfl (OpOk.conv (cBuildB1 rfl rfl) fun w v h => seg_old hB.size w v h) fun a w hF hB => hK _ _ ?_
        refine wpAny_ready (rs := [0, 2]) (by kernel_rfl) (by simp) ?_
        refine AllReady.cons rfl (fun K hK => ?_) ?_
        · refine anyOp hF hB rfl rfl rfl (cLoadTab46 rfl (.l rfl (T3.below h3 hB))) fun a w hF hB => hK _ _ ?_
          refine wpAny_ready (rs := [2]) (by kernel_rfl) (by simp) ?_
          refine AllReady.cons rfl (fun K hK => ?_) ?_
          · refine anyFreeze hF hB rfl rfl rfl rfl Try.underlying70 Try.underlying5 rfl (by decide) rfl fun a w hF hB => hK _ _ ?_
            refine wpAny_ready (rs := [3]) (by kernel_rfl) (by simp) ?_
            refine AllReady.cons rfl (fun K hK => ?_) ?_
            · refine anyOp hF hB rfl rfl rfl (cBuildT (τs := [Ty.sl 5 1 [.int .u8 122]]) rfl (partsT1 rfl (.t rfl) (Ty.sl_isSl _ _ _)) Try.underlying113 infoB rfl) fun a w hF hB => hK _ _ ?_
              refine wpAny_ready (rs := [4]) (by kernel_rfl) (by simp) ?_
              refine AllReady.cons rfl (fun K hK => ?_) ?_
              · refine anyOp hF hB rfl rfl rfl (cCall1 rfl rfl hSO) fun a w hF hB => hK _ _ ?_
                refine wpAny_ready (rs := [5]) (by kernel_rfl) (by simp) ?_
                refine AllReady.cons rfl (fun K hK => ?_) ?_
                · refine anyOp hF hB rfl rfl rfl (cCallR2 rfl (.t rfl) (.t rfl) hTk (tabO_olds _ _ _)) fun a w hF hB => hK _ _ ?_
                  refine wpAny_ready (rs := [7]) (by kernel_rfl) (by simp) ?_
                  refine AllReady.cons rfl (fun K hK => ?_) ?_
                  · refine anyStoreT hF hB rfl rfl rfl rfl rfl sizeT46 rfl rfl fun a w hF hB => hK _ _ ?_
                    refine wpAny_done (by kernel_rfl) ?_ _
                    exact ⟨rfl, hF.keep [2, 3, 5, 6, 7, 9, 10, 13, 14, 15, 16, 19, 20], hB⟩
                  exact AllReady.nil
                exact AllReady.nil
              exact AllReady.nil
            exact AllReady.nil
          exact AllReady.nil
        refine AllReady.cons rfl (fun K hK => ?_) ?_
        · refine anyFreeze hF hB rfl rfl rfl rfl Try.underlying70 Try.underlying5 rfl (by decide) rfl fun a w hF hB => hK _ _ ?_
          refine wpAny_ready (rs := [0, 3]) (by kernel_rfl) (by simp) ?_
          refine AllReady.cons rfl (fun K hK => ?_) ?_
          · refine anyOp hF hB rfl rfl rfl (cLoadTab46 rfl (.l rfl (T3.below h3 hB))) fun a w hF hB => hK _ _ ?_
            refine wpAny_ready (rs := [3]) (by kernel_rfl) (by simp) ?_
            refine AllReady.cons rfl (fun K hK => ?_) ?_
            · refine anyOp hF hB rfl rfl rfl (cBuildT (τs := [Ty.sl 5 1 [.int .u8 122]]) rfl (partsT1 rfl (.t rfl) (Ty.sl_isSl _ _ _)) Try.underlying113 infoB rfl) fun a w hF hB => hK _ _ ?_
              refine wpAny_ready (rs := [4]) (by kernel_rfl) (by simp) ?_
              refine AllReady.cons rfl (fun K hK => ?_) ?_
              · refine anyOp hF hB rfl rfl rfl (cCall1 rfl rfl hSO) fun a w hF hB => hK _ _ ?_
                refine wpAny_ready (rs := [5]) (by kernel_rfl) (by simp) ?_
                refine AllReady.cons rfl (fun K hK => ?_) ?_
                · refine anyOp hF hB rfl rfl rfl (cCallR2 rfl (.t rfl) (.t rfl) hTk (tabO_olds _ _ _)) fun a w hF hB => hK _ _ ?_
                  refine wpAny_ready (rs := [7]) (by kernel_rfl) (by simp) ?_
                  refine AllReady.cons rfl (fun K hK => ?_) ?_
                  · refine anyStoreT hF hB rfl rfl rfl rfl rfl sizeT46 rfl rfl fun a w hF hB => hK _ _ ?_
                    refine wpAny_done (by kernel_rfl) ?_ _
                    exact ⟨rfl, hF.keep [2, 3, 5, 6, 7, 9, 10, 13, 14, 15, 16, 19, 20], hB⟩
                  exact AllReady.nil
                exact AllReady.nil
              exact AllReady.nil
            exact AllReady.nil
          refine AllReady.cons rfl (fun K hK => ?_) ?_
          · refine anyOp hF hB rfl rfl rfl (cBuildT (τs := [Ty.sl 5 1 [.int .u8 122]]) rfl (partsT1 rfl (.t rfl) (Ty.sl_isSl _ _ _)) Try.underlying113 infoB rfl) fun a w hF hB => hK _ _ ?_
            refine wpAny_ready (rs := [0, 4]) (by kernel_rfl) (by simp) ?_
            refine AllReady.cons rfl (fun K hK => ?_) ?_
            · refine anyOp hF hB rfl rfl rfl (cLoadTab46 rfl (.l rfl (T3.below h3 hB))) fun a w hF hB => hK _ _ ?_
              refine wpAny_ready (rs := [4]) (by kernel_rfl) (by simp) ?_
              refine AllReady.cons rfl (fun K hK => ?_) ?_
              · refine anyOp hF hB rfl rfl rfl (cCall1 rfl rfl hSO) fun a w hF hB => hK _ _ ?_
                refine wpAny_ready (rs := [5]) (by kernel_rfl) (by simp) ?_
                refine AllReady.cons rfl (fun K hK => ?_) ?_
                · refine anyOp hF hB rfl rfl rfl (cCallR2 rfl (.t rfl) (.t rfl) hTk (tabO_olds _ _ _)) fun a w hF hB => hK _ _ ?_
                  refine wpAny_ready (rs := [7]) (by kernel_rfl) (by simp) ?_
                  refine AllReady.cons rfl (fun K hK => ?_) ?_
                  · refine anyStoreT hF hB rfl rfl rfl rfl rfl sizeT46 rfl rfl fun a w hF hB => hK _ _ ?_
                    refine wpAny_done (by kernel_rfl) ?_ _
                    exact ⟨rfl, hF.keep [2, 3, 5, 6, 7, 9, 10, 13, 14, 15, 16, 19, 20], hB⟩
                  exact AllReady.nil
                exact AllReady.nil
              exact AllReady.nil
            refine AllReady.cons rfl (fun K hK => ?_) ?_
            · refine anyOp hF hB rfl rfl rfl (cCall1 rfl rfl hSO) fun a w hF hB => hK _ _ ?_
              refine wpAny_ready (rs := [0]) (by kernel_rfl) (by simp) ?_
              refine AllReady.cons rfl (fun K hK => ?_) ?_
              · refine anyOp hF hB rfl rfl rfl (cLoadTab46 rfl (.l rfl (T3.below h3 hB))) fun a w hF hB => hK _ _ ?_
                refine wpAny_ready (rs := [5]) (by kernel_rfl) (by simp) ?_
                refine AllReady.cons rfl (fun K hK => ?_) ?_
                · refine anyOp hF hB rfl rfl rfl (cCallR2 rfl (.t rfl) (.t rfl) hTk (tabO_olds _ _ _)) fun a w hF hB => hK _ _ ?_
                  refine wpAny_ready (rs := [7]) (by kernel_rfl) (by simp) ?_
                  refine AllReady.cons rfl (fun K hK => ?_) ?_
                  · refine anyStoreT hF hB rfl rfl rfl rfl rfl sizeT46 rfl rfl fun a w hF hB => hK _ _ ?_
                    refine wpAny_done (by kernel_rfl) ?_ _
                    exact ⟨rfl, hF.keep [2, 3, 5, 6, 7, 9, 10, 13, 14, 15, 16, 19, 20], hB⟩
                  exact AllReady.nil
                exact AllReady.nil
              exact AllReady.nil
            exact AllReady.nil
          exact AllReady.nil
        exact AllReady.nil
      exact AllReady.nil
    exact AllReady.nil
  clear hF hB
  rintro e a w11 ⟨rfl, hF, hB⟩
  repeat with_reducible first | refine wp_seq ?_ | refine nThen ?_ | refine wp_skip ?_ | refine wp_ret ?_
  refine wp_region_lit ?_
  refine' tlOp hF rfl rfl rfl ?_ ?_
  rotate_left
  · first | exact cMove rfl rfl | exact cLoadTab46 rfl (.t rfl) | exact cCall1 rfl rfl hA7
  intro a w12_0 hF hb
  replace hB := hB.trans (hb.mono hB.size)
  refine' tlOp hF rfl rfl rfl ?_ ?_
  rotate_left
  · first | exact cMove rfl rfl | exact cLoadTab46 rfl (.t rfl) | exact cCall1 rfl rfl hA7
  intro a w12_1 hF hb
  replace hB := hB.trans (hb.mono hB.size)
  refine' tlOp hF rfl rfl rfl ?_ ?_
  rotate_left
  · first | exact cMove rfl rfl | exact cLoadTab46 rfl (.t rfl) | exact cCall1 rfl rfl hA7
  intro a w12_2 hF hb
  replace hB := hB.trans (hb.mono hB.size)
  refine' tlOp hF rfl rfl rfl ?_ ?_
  rotate_left
  · exact cExtract rfl rfl rfl
  intro a w12_t hF hb
  replace hB := hB.trans (hb.mono hB.size)
  refine' tlOp hF rfl rfl rfl ?_ ?_
  rotate_left
  · exact cExtract rfl rfl rfl
  intro a w12_e hF hb
  replace hB := hB.trans (hb.mono hB.size)
  refine tlNewRes hF rfl rfl rfl (by decide) rfl rfl rfl rfl rfl fun a w12_n hF hb => ?_
  replace hB := hB.trans (hb.mono hB.size)
  refine' tlOp hF rfl rfl rfl ?_ ?_
  rotate_left
  · exact cAssign rfl rfl
  intro a w12 hF hb
  replace hB := hB.trans (hb.mono hB.size)
  try (refine wpList_nil ?_)
  repeat with_reducible first | refine wp_seq ?_ | refine nThen ?_ | refine wp_skip ?_ | refine wp_ret ?_
  refine' reg_all hF ?_ mixed (by kernel_rfl) ?_
  rotate_left
  · repeat (first
        | exact Line.nil
        | ((first | refine' Line.cons rfl (.run rfl rfl ?_) ?_ | refine' Line.cons rfl (.yes rfl rfl rfl rfl ?_) ?_)
           any_goals (first | exact cMove rfl rfl | exact cAssign rfl rfl | exact cNot rfl rfl | exact cLoadTab46 rfl (.t rfl) | exact cCallH2 rfl (.t rfl) (Has.l rfl (sums_nil _)) hO8 | exact cPickT rfl rfl rfl | exact cEql rfl rfl rfl | exact cExtract rfl rfl rfl)
           rotate_left))
  intro a w13 hF hb hN
  have hBs := hB.size
  replace hB := hB.trans (hb.mono hB.size)
  dsimp only [ext, Option.getD] at hF
  repeat with_reducible first | refine wp_seq ?_ | refine nThen ?_ | refine wp_skip ?_ | refine wp_ret ?_
  obtain ⟨v21, h21, hF⟩ := hF.open (s := 21) rfl
  let T21 := Ty.resA [] [y] 1 NL
  have hB13 := hB
  have hw13 := hB.size
  have k3 := T3.below h3 hB
  replace hB := Below.refl w13.heap.size w13
  refine wp_region_lit ?_
  refine' tlOp hF rfl rfl rfl ?_ ?_
  rotate_left
  · first | exact cLoadTab46 rfl (.l rfl k3) | exact cMove rfl rfl | exact cAssign rfl rfl | exact cPickT rfl rfl rfl | exact cNot rfl rfl | exact cEql rfl rfl rfl | exact cExtract rfl rfl rfl
  intro a w14 hF hb
  have hBs := hB.size
  replace hB := hB.trans (hb.mono hB.size)
  try (refine wpList_nil ?_)
  repeat with_reducible first | refine wp_seq ?_ | refine nThen ?_ | refine wp_skip ?_ | refine wp_ret ?_
  refine tlNewTabB (hF.keep [2, 3, 5, 6, 7, 9, 10, 13, 14, 15, 16, 19, 21, 22, 25, 98]) rfl rfl rfl (by decide) rfl (run_alloc_i infoT46) rfl rfl rfl rfl (fun _ _ h => h) sizeT46 fun a w15 s hF hb hbT hsT => ?_
  have hg26 : w13.heap.size ≤ w14.heap.size := hB.size
  obtain ⟨g26, eg⟩ : ∃ g, g = w14.heap.size := ⟨_, rfl⟩
  rw [← eg] at hF hbT hg26
  replace hB := hB.trans (hb.mono hB.size)
  refine wpList_nil ?_
  repeat with_reducible first | refine wp_seq ?_ | refine nThen ?_ | refine wp_skip ?_ | refine wp_ret ?_
  clear hsT
  obtain ⟨s3, a3, k3'⟩ := T3.below k3 hB
  refine wp_region_lit ?_
  refine' tlOp hF rfl rfl rfl ?_ ?_
  rotate_left
  · first | exact cBuild0 rfl Try.underlying39 infoC34 | exact cMove rfl rfl | exact cAssign rfl rfl | exact cPickT rfl rfl rfl | exact cNot rfl rfl | exact cEql rfl rfl rfl | exact cExtract rfl rfl rfl
  intro a w16 hF hb
  have hBs := hB.size
  replace hB := hB.trans (hb.mono hB.size)
  try (refine wpList_nil ?_)
  repeat with_reducible first | refine wp_seq ?_ | refine nThen ?_ | refine wp_skip ?_ | refine wp_ret ?_
  obtain ⟨u99, ⟨S, hseg, hS⟩, hF⟩ := hF.open (s := 99) rfl
  replace hbT := hbT.below hb
  replace a3 := (Ty.at_ 41 [.int .u64 ((1 : Nat) : Int), s3]).below a3 hb
  replace k3' : (Ty.cls 87 Z).p w16 s3 := (Ty.cls 87 Z).below k3' hb
  replace hseg := hseg.below (Below.refl _ _)
  have hSw : ∀ y ∈ S, w13.heap.size ≤ y := fun y hy => by have := hS y hy; omega
  refine' tlOp hF rfl rfl rfl ?_ ?_
  rotate_left
  · first | exact cFldL46 rfl (.l rfl a3) | exact cMove rfl rfl | exact cAssign rfl rfl | exact cPickT rfl rfl rfl | exact cNot rfl rfl | exact cEql rfl rfl rfl | exact cExtract rfl rfl rfl
  intro a w17 hF hb
  have hBs := hB.size
  replace hB := hB.trans (hb.mono hB.size)
  try (refine wpList_nil ?_)
  repeat with_reducible first | refine wp_seq ?_ | refine nThen ?_ | refine wp_skip ?_ | refine wp_ret ?_
  replace hbT := hbT.below hb
  replace hseg := hseg.below hb
  replace k3' : (Ty.cls 87 Z).p w17 s3 := (Ty.cls 87 Z).below k3' hb
  refine' tlOp hF rfl rfl rfl ?_ ?_
  rotate_left
  · first | exact cRowOf46 rfl (.t rfl) | exact cMove rfl rfl | exact cAssign rfl rfl | exact cPickT rfl rfl rfl | exact cNot rfl rfl | exact cEql rfl rfl rfl | exact cExtract rfl rfl rfl
  intro a w18 hF hb
  have hBs := hB.size
  replace hB := hB.trans (hb.mono hB.size)
  try (refine wpList_nil ?_)
  repeat with_reducible first | refine wp_seq ?_ | refine nThen ?_ | refine wp_skip ?_ | refine wp_ret ?_
  replace hbT := hbT.below hb
  replace hseg := hseg.below hb
  replace k3' : (Ty.cls 87 Z).p w18 s3 := (Ty.cls 87 Z).below k3' hb
  refine tlAppend (Δ := [(2, Ty.ex (.int .i64 1)), (3, Ty.ex v3), (5, Ty.ex v5), (6, Ty.ex (.int .i64 0)), (7, Ty.ex v7), (9, Ty.ex v9), (10, Ty.ex (.int .i64 10)), (13, Ty.ex (.int .i64 10)), (14, Ty.sums 34 []), (15, Ty.sums 34 []), (16, Ty.ex (.int .i64 0)), (19, Ty.ex (.int .i64 1)), (21, Ty.ex v21), (22, Ty.ex (.int .i64 0)), (25, Ty.ex (.int .i64 10)), (26, Ty.ex (.pointer (some ⟨g26, 0, none⟩)))]) (n := 0) (m := Z.length) (news := flatC Z) hF rfl rfl rfl rfl Try.underlying39 infoC34 zero65_cells rfl hseg (.l rfl k3') sl_news (flatC_len _) flatC_one' (by simp [maxLen]; omega) (by omega) (hF.keep [2, 3, 5, 6, 7, 9, 10, 13, 14, 15, 16, 19, 21, 22, 25, 26]) rfl ?_
  intro a w19 u S' hF hseg' hk19 hS'
  have hSw' : ∀ y ∈ S', w13.heap.size ≤ y := fun y hy => by
    rcases hS' with rfl | rfl
    · exact hSw y hy
    · simp only [List.mem_singleton] at hy
      have := hB.size
      omega
  replace hB := below_own hB hk19 hSw
  replace hbT := hbT.keeps hk19 (blk_apart hseg hbT (by decide))
  rw [List.nil_append] at hseg'
  clear hseg k3' a3 hk19 hS'
  refine' tlOp hF rfl rfl rfl ?_ ?_
  rotate_left
  · first | exact cFieldExE rfl rfl Try.underlying41 rfl size_row46 | exact cMove rfl rfl | exact cAssign rfl rfl | exact cPickT rfl rfl rfl | exact cNot rfl rfl | exact cEql rfl rfl rfl | exact cExtract rfl rfl rfl
  intro a w20 hF hb
  have hBs := hB.size
  replace hB := hB.trans (hb.mono hB.size)
  try (refine wpList_nil ?_)
  repeat with_reducible first | refine wp_seq ?_ | refine nThen ?_ | refine wp_skip ?_ | refine wp_ret ?_
  replace hbT := hbT.below hb
  replace hseg' := hseg'.below hb
  have hc1 := sl_cells (seg_isA hseg')
  refine tlStoreF (k := 1) (v := u) (Δ := [(2, Ty.ex (.int .i64 1)), (3, Ty.ex v3), (5, Ty.ex v5), (6, Ty.ex (.int .i64 0)), (7, Ty.ex v7), (9, Ty.ex v9), (10, Ty.ex (.int .i64 10)), (13, Ty.ex (.int .i64 10)), (14, Ty.sums 34 []), (15, Ty.sums 34 []), (16, Ty.ex (.int .i64 0)), (19, Ty.ex (.int .i64 1)), (21, Ty.ex v21), (22, Ty.ex (.int .i64 0)), (25, Ty.ex (.int .i64 10)), (26, Ty.ex (.pointer (some ⟨g26, 0, none⟩)))]) hF rfl rfl rfl rfl (hF.getEx (s := 102) rfl) hbT (by rw [hc1]; simp) (by rw [hc1]; exact size_row46) (sl_one1 (seg_isA hseg')) (hF.keep [2, 3, 5, 6, 7, 9, 10, 13, 14, 15, 16, 19, 21, 22, 25, 26]) rfl ?_
  intro w21 hF hbT' hk21
  refine wpList_nil ?_
  rw [splice2 _ _ _ hc1] at hbT'
  replace hseg' := hseg'.keeps hk21 (seg_far hseg' hbT (by decide))
  replace hB := below_own hB hk21 (by intro y hy; simp only [List.mem_singleton] at hy; omega)
  clear hbT hk21 hc1
  obtain ⟨g, off, cap, eu, eS, hsl⟩ : ∃ g off cap, u = .slice (some ⟨g, off, none⟩) (0 + Z.length) cap ∧ S' = [g] ∧ SegL w21 87 65 g off (0 + Z.length) cap (flatC Z) := by
    rcases hseg'.cases with ⟨_, h0, _⟩ | h
    · omega
    · exact h
  have hgw : w13.heap.size ≤ g := hSw' g (by rw [eS]; simp)
  rw [eu] at hbT'
  rw [Nat.zero_add] at hsl hbT'
  clear hseg'
  repeat with_reducible first | refine wp_seq ?_ | refine nThen ?_ | refine wp_skip ?_ | refine wp_ret ?_
  refine wp_region_lit ?_
  refine' tlOp hF rfl rfl rfl ?_ ?_
  rotate_left
  · first | exact cFldL46 rfl (.l rfl (tblk_at hbT')) | exact cMove rfl rfl | exact cAssign rfl rfl | exact cPickT rfl rfl rfl | exact cNot rfl rfl | exact cEql rfl rfl rfl | exact cExtract rfl rfl rfl
  intro a w22 hF hb
  have hBs := hB.size
  replace hB := hB.trans (hb.mono hB.size)
  try (refine wpList_nil ?_)
  repeat with_reducible first | refine wp_seq ?_ | refine nThen ?_ | refine wp_skip ?_ | refine wp_ret ?_
  replace hsl := hsl.below hb
  replace hbT' := hbT'.below hb
  refine' tlOp hF rfl rfl rfl ?_ ?_
  rotate_left
  · first | exact cRowOf46 rfl (.t rfl) | exact cMove rfl rfl | exact cAssign rfl rfl | exact cPickT rfl rfl rfl | exact cNot rfl rfl | exact cEql rfl rfl rfl | exact cExtract rfl rfl rfl
  intro a w23 hF hb
  have hBs := hB.size
  replace hB := hB.trans (hb.mono hB.size)
  try (refine wpList_nil ?_)
  repeat with_reducible first | refine wp_seq ?_ | refine nThen ?_ | refine wp_skip ?_ | refine wp_ret ?_
  replace hsl := hsl.below hb
  replace hbT' := hbT'.below hb
  refine' tlOp hF rfl rfl rfl ?_ ?_
  rotate_left
  · first | exact cBuildC rfl buildC5 | exact cMove rfl rfl | exact cAssign rfl rfl | exact cPickT rfl rfl rfl | exact cNot rfl rfl | exact cEql rfl rfl rfl | exact cExtract rfl rfl rfl
  intro a w24 hF hb
  have hBs := hB.size
  replace hB := hB.trans (hb.mono hB.size)
  try (refine wpList_nil ?_)
  repeat with_reducible first | refine wp_seq ?_ | refine nThen ?_ | refine wp_skip ?_ | refine wp_ret ?_
  replace hsl := hsl.below hb
  replace hbT' := hbT'.below hb
  refine' tlOp hF rfl rfl rfl ?_ ?_
  rotate_left
  · first | exact cIndexEx (k := 0) (sz := 65) rfl rfl rfl Try.underlying39 info34 (by omega) | exact cMove rfl rfl | exact cAssign rfl rfl | exact cPickT rfl rfl rfl | exact cNot rfl rfl | exact cEql rfl rfl rfl | exact cExtract rfl rfl rfl
  intro a w25 hF hb
  have hBs := hB.size
  replace hB := hB.trans (hb.mono hB.size)
  try (refine wpList_nil ?_)
  repeat with_reducible first | refine wp_seq ?_ | refine nThen ?_ | refine wp_skip ?_ | refine wp_ret ?_
  replace hsl := hsl.below hb
  replace hbT' := hbT'.below hb
  refine tlStoreAt (Δ := [(2, Ty.ex (.int .i64 1)), (3, Ty.ex v3), (5, Ty.ex v5), (6, Ty.ex (.int .i64 0)), (7, Ty.ex v7), (9, Ty.ex v9), (10, Ty.ex (.int .i64 10)), (13, Ty.ex (.int .i64 10)), (14, Ty.sums 34 []), (15, Ty.sums 34 []), (16, Ty.ex (.int .i64 0)), (19, Ty.ex (.int .i64 1)), (21, Ty.ex v21), (22, Ty.ex (.int .i64 0)), (25, Ty.ex (.int .i64 10)), (26, Ty.ex (.pointer (some ⟨g26, 0, none⟩)))]) (k := 0 * 65) hF rfl rfl rfl rfl rfl hsl (by rw [Cl.size]; omega) (by rw [Cl.size]; exact info34) (Cl.one _) (hF.keep [2, 3, 5, 6, 7, 9, 10, 13, 14, 15, 16, 19, 21, 22, 25, 26]) rfl ?_
  intro w26 hF hsl' hk26
  refine wpList_nil ?_
  replace hbT' := hbT'.keeps hk26 (by simpa using segl_far hsl hbT' (by decide))
  rw [show (Cl.mk 5 Sm.zero Sm.zero).a.toList = (Cl.mk 5 Sm.zero Sm.zero).enc from rfl, over_flatC _ _ (by omega), ← eO] at hsl'
  replace hB := below_own hB hk26 (by intro y hy; simp only [List.mem_singleton] at hy; omega)
  have olen : OL.length = Z.length := by rw [eO, List.length_set]
  have hsO : (Ty.cls 87 OL).p w26 (.slice (some ⟨g, off, none⟩) Z.length cap) := by
    have h := hsl'.sl
    rwa [← olen] at h ⊢
  clear hsl hsl' hk26 eO eu eS
  have hB26 := hB
  have hw26 := hB.size
  replace hB := Below.refl w26.heap.size w26
  repeat with_reducible first | refine wp_seq ?_ | refine nThen ?_ | refine wp_skip ?_ | refine wp_ret ?_
  refine wp_region_lit ?_
  refine' tlOp hF rfl rfl rfl ?_ ?_
  rotate_left
  · first | exact cMove rfl rfl | exact cLoadT46 rfl (.l rfl (tblk_at (hbT'.below hB))) | exact cCallH1 rfl (Has.l (τ := Ty.tab 87 1 OL) rfl ⟨_, rfl, (Ty.cls 87 OL).below hsO hB⟩) hA9
  intro a w27_0 hF hb
  replace hB := hB.trans (hb.mono hB.size)
  refine' tlOp hF rfl rfl rfl ?_ ?_
  rotate_left
  · first | exact cMove rfl rfl | exact cLoadT46 rfl (.l rfl (tblk_at (hbT'.below hB))) | exact cCallH1 rfl (Has.l (τ := Ty.tab 87 1 OL) rfl ⟨_, rfl, (Ty.cls 87 OL).below hsO hB⟩) hA9
  intro a w27_1 hF hb
  replace hB := hB.trans (hb.mono hB.size)
  refine' tlOp hF rfl rfl rfl ?_ ?_
  rotate_left
  · first | exact cMove rfl rfl | exact cLoadT46 rfl (.l rfl (tblk_at (hbT'.below hB))) | exact cCallH1 rfl (Has.l (τ := Ty.tab 87 1 OL) rfl ⟨_, rfl, (Ty.cls 87 OL).below hsO hB⟩) hA9
  intro a w27_2 hF hb
  replace hB := hB.trans (hb.mono hB.size)
  refine' tlOp hF rfl rfl rfl ?_ ?_
  rotate_left
  · exact cExtract rfl rfl rfl
  intro a w27_t hF hb
  replace hB := hB.trans (hb.mono hB.size)
  refine' tlOp hF rfl rfl rfl ?_ ?_
  rotate_left
  · exact cExtract rfl rfl rfl
  intro a w27_e hF hb
  replace hB := hB.trans (hb.mono hB.size)
  refine tlNewRes hF rfl rfl rfl (by decide) rfl rfl rfl rfl rfl fun a w27_n hF hb => ?_
  replace hB := hB.trans (hb.mono hB.size)
  refine' tlOp hF rfl rfl rfl ?_ ?_
  rotate_left
  · exact cAssign rfl rfl
  intro a w27 hF hb
  replace hB := hB.trans (hb.mono hB.size)
  try (refine wpList_nil ?_)
  repeat with_reducible first | refine wp_seq ?_ | refine nThen ?_ | refine wp_skip ?_ | refine wp_ret ?_
  have hBX := hB13.trans ((hB26.trans (hB.mono hw26)).mono hw13)
  have k21 := T21.below h21 (hB26.trans (hB.mono hw26))
  have k3 := T3.below h3 hBX
  have k5 := T5.below h5 hBX
  have k7 := T7.below h7 hBX
  have k9 := T9.below h9 hBX
  clear hsO hbT'
  repeat with_reducible first | refine wp_seq ?_ | refine nThen ?_ | refine wp_skip ?_ | refine wp_ret ?_
  refine' reg_all hF ?_ mixed (by kernel_rfl) ?_
  rotate_left
  · repeat (first
        | exact Line.nil
        | ((first | refine' Line.cons rfl (.run rfl rfl ?_) ?_ | refine' Line.cons rfl (.yes rfl rfl rfl rfl ?_) ?_)
           any_goals (first | exact cMove rfl rfl | exact cAssign rfl rfl | exact cNot rfl rfl | exact OpOk.b (c := true) (cEql rfl rfl rfl) rfl | exact cSelP rfl (.l rfl k5) | exact cSelM rfl (.l rfl k5) | exact cSelL rfl (.l rfl k5) | exact cSelP rfl (.l rfl k9) | exact cSelL rfl (.l rfl k9) | exact cSelP rfl (.l rfl k21) | exact cSelM rfl (.l rfl k21) | exact cLoadSel rfl rfl | exact cLoadTabR rfl rfl | exact cLoadTab46 rfl (.l rfl k7) | exact cLenH rfl (.t rfl) (Ty.sl_isSl _ _ _) Try.underlying25 | exact cCall1 rfl rfl hTZ | exact cCallR1 rfl (.t rfl) tO (tabO_olds _ _ _) | exact cCallH2 rfl (Has.c (.t rfl) tabO_tab) (Has.c (.t rfl) tabO_tab) tS | exact cPickT rfl rfl rfl | exact cEql rfl rfl rfl | exact cExtract rfl rfl rfl)
           rotate_left))
  intro a w30 hF hb hN
  have hBs := hB.size
  replace hB := hB.trans (hb.mono hB.size)
  dsimp only [ext, Option.getD] at hF
  repeat with_reducible first | refine wp_seq ?_ | refine nThen ?_ | refine wp_skip ?_ | refine wp_ret ?_
  refine ret1 hF rfl rfl fun z hz => ?_
  exact ⟨by rw [show z = .bool true from hz], hB10.trans ((hB13.trans ((hB26.trans (hB.mono hw26)).mono hw13)).mono hw10)⟩
end Go.Proofs.Ytmlbkcpmgcjblaa

/- From a row's reading of an argument to what a walk takes: slices of bytes; whole numbers. -/
namespace Go.Proofs.Ytmlbkcpmgcjblaa
open Go.RowKit Go.ChangeShapes Go.WideShapes

end Go.Proofs.Ytmlbkcpmgcjblaa
