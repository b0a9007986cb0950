/- Joined: PlaceC, PlaceD, R1Keys, R1Block, R1Xor, App, Still, SumW, R1Of, PlaceE, PlaceF, PlaceG, TabP, XorA, TabA, TyO, TyW, TabB, SetA, CmpP, Cmp, R1Cmp, SetC, SetD, SetE, TabC, TabD, TabE, TabF, LaysS, SetF, SetG. -/
import Derived.Lib.TrailingZeros
import Derived.Shelf.Spec.TrailingZeros
import Derived.StillTailTactics
import Derived.WalkLawsBesides
import Derived.Lib.Hide
import Derived.Test.YtgmeagkolahkoaaDoorProg
import Derived.KernelRfl
import Derived.Lib.Bytealg
import Derived.Lib.BytesEntry
import Derived.Deep.QuietTactic
import Derived.BigQuiet
import Derived.Laws.MakeOwn
import Derived.Shelf.SlGeneric
import Derived.Shelf.SlSortCmp.NoneTotal
import Derived.Ground.SlsfProg
import Derived.Test.YtgmeagkolahkoaaDoorZStrataKnownCard1
/- Layer 14 by types: Word, GoodCells, Good, ints. -/
namespace Go.Proofs.YtgmeagkolahkoaaDoor
open Go.RowKit

section
variable {P : Program} {w0 : World} {Γ : Ctx} {o : Oper} {t t2 : TypeId} {x y : Operand}
theorem cOr {k : IntKind} {m n r : Int} (ho : o.op = .binOp .or t x y t2) (hx : OpT Γ x (Ty.ex (.int k m))) (hy : OpT Γ y (Ty.ex (.int k n))) (hr : bits .or k m n = r) : OpOk P w0 Γ o (Ty.ex (.int k r)) :=
  cBin ho hx hy fun w => by subst hr; simp [eqGuard, binOp, Op.intBits, bits]
theorem cShl {k j : IntKind} {m n r : Int} (ho : o.op = .binOp .shl t x y t2) (hx : OpT Γ x (Ty.ex (.int k m))) (hy : OpT Γ y (Ty.ex (.int j n))) (hn : 0 ≤ n ∧ n.toNat ≤ k.bits) (hr : k.wrap (m * 2 ^ n.toNat) = r) : OpOk P w0 Γ o (Ty.ex (.int k r)) :=
  cBin ho hx hy fun w => by
    have h1 : ¬ n < 0 := by omega
    have h2 : min n.toNat k.bits = n.toNat := Nat.min_eq_left hn.2
    simp [eqGuard, binOp, Op.shift, h1, h2, hr]
theorem cRemI {m n r : Int} {k : IntKind} (ho : o.op = .binOp .rem t x y t2) (hx : OpT Γ x (Ty.ex (.int k m))) (hy : OpT Γ y (Ty.ex (.int k n))) (hn : n ≠ 0) (hr : m.tmod n = r) : OpOk P w0 Γ o (Ty.ex (.int k r)) := by
  have h := cRem (P := P) (w0 := w0) ho hx hy hn
  rwa [hr] at h
end
theorem three_ne : (3 : Int) ≠ 0 := by decide
def goodN (n : Int) : Bool := decide (3 ≤ n ∧ n ≤ 1024 ∧ n % 3 = 0)
set_option maxRecDepth 100000 in
theorem good14_ty (n : Int) : Fn1 Tryd.prog 18 (Ty.ex (.int .i64 n)) (Ty.ex (.bool (goodN n))) := by
  refine ⟨fun args w => by kernel_rfl, fun w v hv => ?_⟩
  by_cases h1 : 3 ≤ n
  · by_cases h2 : n ≤ 1024
    · refine enter_ty 14 [Ty.ex (.int .i64 n)] Tryd.func18 rfl (by kernel_rfl) ⟨hv, trivial⟩ fun a hF => ?_
      have hB := Below.refl w.heap.size w
      repeat with_reducible refine wp_seq ?_
      refine' reg_all hF ?_ mixed (by kernel_rfl) ?_
      rotate_left
      · repeat (first | exact Line.nil | ((refine' Line.cons rfl (.run rfl rfl ?_) ?_); (any_goals exact cAssign rfl rfl); rotate_left))
      intro a w1 hF hb hN
      have hBs := hB.size
      replace hB := hB.trans (hb.mono hB.size)
      dsimp only [ext, Option.getD] at hF
      repeat with_reducible first | refine wp_seq ?_ | refine nThen ?_
      refine' reg_all hF ?_ mixed (by kernel_rfl) ?_
      rotate_left
      · repeat (first | exact Line.nil | ((first | refine' Line.cons rfl (.run rfl rfl ?_) ?_ | refine' Line.cons rfl (.yes rfl rfl rfl rfl ?_) ?_); (any_goals (first | exact cMove rfl rfl | exact cAssign rfl rfl | exact OpOk.b (c := true) (cGeq rfl rfl rfl) (decide_eq_true h1) | exact OpOk.b (c := true) (cLeq rfl rfl rfl) (decide_eq_true h2) | exact cRemI rfl rfl rfl three_ne rfl | exact cPickT rfl rfl rfl | exact cEql rfl rfl rfl)); rotate_left))
      intro a w2 hF hb hN
      have hBs := hB.size
      replace hB := hB.trans (hb.mono hB.size)
      dsimp only [ext, Option.getD] at hF
      repeat with_reducible first | refine nThen ?_ | refine wp_ret ?_
      refine ret1 hF rfl rfl fun z hz => ?_
      refine ⟨z, rfl, ?_, hB⟩
      have hz : z = .bool (decide (n.tmod 3 = 0)) := hz
      rw [hz]
      show _ = _
      congr 1
      unfold goodN
      rw [Bool.eq_iff_iff, decide_eq_true_eq, decide_eq_true_eq]
      have := Int.tmod_eq_emod_of_nonneg (a := n) (b := 3) (by omega)
      omega
    · refine enter_ty 14 [Ty.ex (.int .i64 n)] Tryd.func18 rfl (by kernel_rfl) ⟨hv, trivial⟩ fun a hF => ?_
      have hB := Below.refl w.heap.size w
      repeat with_reducible refine wp_seq ?_
      refine' reg_all hF ?_ mixed (by kernel_rfl) ?_
      rotate_left
      · repeat (first | exact Line.nil | ((refine' Line.cons rfl (.run rfl rfl ?_) ?_); (any_goals exact cAssign rfl rfl); rotate_left))
      intro a w1 hF hb hN
      have hBs := hB.size
      replace hB := hB.trans (hb.mono hB.size)
      dsimp only [ext, Option.getD] at hF
      repeat with_reducible first | refine wp_seq ?_ | refine nThen ?_
      refine' reg_all hF ?_ mixed (by kernel_rfl) ?_
      rotate_left
      · repeat (first | exact Line.nil | (refine' Line.cons rfl (.no rfl rfl rfl rfl rfl rfl) ?_; rotate_left) | ((first | refine' Line.cons rfl (.run rfl rfl ?_) ?_ | refine' Line.cons rfl (.yes rfl rfl rfl rfl ?_) ?_); (any_goals (first | exact cMove rfl rfl | exact cAssign rfl rfl | exact OpOk.b (c := true) (cGeq rfl rfl rfl) (decide_eq_true h1) | exact OpOk.b (c := false) (cLeq rfl rfl rfl) (decide_eq_false h2) | exact cPickT rfl rfl rfl | exact cPickF rfl rfl rfl)); rotate_left))
      intro a w2 hF hb hN
      have hBs := hB.size
      replace hB := hB.trans (hb.mono hB.size)
      dsimp only [ext, Option.getD] at hF
      repeat with_reducible first | refine nThen ?_ | refine wp_ret ?_
      refine ret1 hF rfl rfl fun z hz => ?_
      refine ⟨z, rfl, ?_, hB⟩
      rw [show goodN n = false from decide_eq_false (fun h => h2 h.2.1)]
      exact hz
  · refine enter_ty 14 [Ty.ex (.int .i64 n)] Tryd.func18 rfl (by kernel_rfl) ⟨hv, trivial⟩ fun a hF => ?_
    have hB := Below.refl w.heap.size w
    repeat with_reducible refine wp_seq ?_
    refine' reg_all hF ?_ mixed (by kernel_rfl) ?_
    rotate_left
    · repeat (first | exact Line.nil | ((refine' Line.cons rfl (.run rfl rfl ?_) ?_); (any_goals exact cAssign rfl rfl); rotate_left))
    intro a w1 hF hb hN
    have hBs := hB.size
    replace hB := hB.trans (hb.mono hB.size)
    dsimp only [ext, Option.getD] at hF
    repeat with_reducible first | refine wp_seq ?_ | refine nThen ?_
    refine' reg_all hF ?_ mixed (by kernel_rfl) ?_
    rotate_left
    · repeat (first | exact Line.nil | (refine' Line.cons rfl (.no rfl rfl rfl rfl rfl rfl) ?_; rotate_left) | ((refine' Line.cons rfl (.run rfl rfl ?_) ?_); (any_goals (first | exact cMove rfl rfl | exact cAssign rfl rfl | exact OpOk.b (c := false) (cGeq rfl rfl rfl) (decide_eq_false h1) | exact cPickF rfl rfl rfl)); rotate_left))
    intro a w2 hF hb hN
    have hBs := hB.size
    replace hB := hB.trans (hb.mono hB.size)
    dsimp only [ext, Option.getD] at hF
    repeat with_reducible first | refine nThen ?_ | refine wp_ret ?_
    refine ret1 hF rfl rfl fun z hz => ?_
    refine ⟨z, rfl, ?_, hB⟩
    rw [show goodN n = false from decide_eq_false (fun h => h1 h.1)]
    exact hz
theorem sm_getD (x : Sm) (j : Nat) : x.l.getD j 0 < 256 := by
  by_cases h : j < x.l.length
  · simp only [List.getD, List.getElem?_eq_getElem h, Option.getD_some]
    exact x.lt _ (List.getElem_mem h)
  · simp [List.getD, List.getElem?_eq_none (by omega : x.l.length ≤ j)]
theorem enc_drop {x : Sm} {j : Nat} (h : j < 32) : x.enc.drop j = bv (x.l.getD j 0) :: x.enc.drop (j + 1) := by
  have hl : j < x.enc.length := by rw [enc_len]; exact h
  have hl2 : j < x.l.length := by rw [x.len]; exact h
  rw [List.drop_eq_getElem_cons hl]
  congr 1
  simp [Sm.enc, List.getD, List.getElem?_eq_getElem hl2]

set_option maxRecDepth 100000 in
set_option maxHeartbeats 1000000 in
theorem sword_ty (x : Sm) (i : Nat) (hi : i < 4) : Fn2 Tryd.prog 41 (Ty.ex (.agg (u8s x.l))) (Ty.ex (.int .i64 (i : Int))) (Ty.ex (.int .u64 (wordF x.l i 8 : Int))) := by
  refine ⟨fun args w => by kernel_rfl, fun w v u hv hu => ?_⟩
  refine enter_ty 28 [Ty.ex (.agg (u8s x.l)), Ty.ex (.int .i64 (i : Int))] Tryd.func41 rfl (by kernel_rfl) ⟨hv, hu, trivial⟩ fun a hF => ?_
  have hB := Below.refl w.heap.size w
  repeat with_reducible refine wp_seq ?_
  refine' reg_all hF ?_ mixed (by kernel_rfl) ?_
  rotate_left
  · repeat (first | exact Line.nil | ((refine' Line.cons rfl (.run rfl rfl ?_) ?_); (any_goals (first | exact cAssign rfl rfl | exact cBoxSum rfl rfl)); rotate_left))
  intro a w1 hF hb hN
  have hBs := hB.size
  replace hB := hB.trans (hb.mono hB.size)
  dsimp only [ext, Option.getD] at hF
  repeat with_reducible first | refine wp_seq ?_ | refine nThen ?_
  refine' reg_all hF ?_ mixed (by kernel_rfl) ?_
  rotate_left
  · repeat (first | exact Line.nil | ((first | refine' Line.cons rfl (.run rfl rfl ?_) ?_ | refine' Line.cons rfl (.yes rfl rfl rfl rfl ?_) ?_); (any_goals (first | exact cMove rfl rfl | exact OpOk.b (c := false) (cLss rfl rfl rfl) (decide_eq_false (by omega)) | exact OpOk.b (c := false) (cGeq rfl rfl rfl) (decide_eq_false (by omega)) | exact cPickF rfl rfl rfl)); rotate_left))
  intro a w2 hF hb hN
  have hBs := hB.size
  replace hB := hB.trans (hb.mono hB.size)
  dsimp only [ext, Option.getD] at hF
  repeat with_reducible refine nThen ?_
  refine cond_f hF rfl ?_
  repeat with_reducible first | refine wp_seq ?_ | refine nThen ?_ | refine wp_skip ?_
  refine' reg_all hF ?_ mixed (by kernel_rfl) ?_
  rotate_left
  · repeat (first | exact Line.nil | ((refine' Line.cons rfl (.run rfl rfl ?_) ?_); (any_goals exact cAssign rfl rfl); rotate_left))
  intro a w3 hF hb hN
  have hBs := hB.size
  replace hB := hB.trans (hb.mono hB.size)
  dsimp only [ext, Option.getD] at hF
  repeat with_reducible first | refine wp_seq ?_ | refine nThen ?_
  refine' reg_all hF ?_ mixed (by kernel_rfl) ?_
  rotate_left
  · repeat (first | exact Line.nil | ((refine' Line.cons rfl (.run rfl rfl ?_) ?_); (any_goals exact cAssign rfl rfl); rotate_left))
  intro a w4 hF hb hN
  have hBs := hB.size
  replace hB := hB.trans (hb.mono hB.size)
  dsimp only [ext, Option.getD] at hF
  repeat with_reducible first | refine nThen ?_ | refine wp_block ?_
  refine loop_ty (fun m a wr => ∃ t : Nat, t + m = 8 ∧ Fr 28 [(2, Ty.at_ 25 x.enc), (1, Ty.ex (.int .i64 (i : Int))), (5, Ty.ex (.int .u64 (wordF x.l i t : Int))), (6, Ty.ex (.int .i64 (7 - (t : Int))))] a wr ∧ Below w.heap.size w wr) 8 ?_ ?_
  · exact ⟨0, by omega, hF.keep [2, 1, 5, 6], hB⟩
  clear hF hB
  rintro m a wr ⟨t, ht, hF, hB⟩
  repeat with_reducible refine wp_seq ?_
  refine' reg_all hF ?_ mixed (by kernel_rfl) ?_
  rotate_left
  · repeat (first | exact Line.nil | ((refine' Line.cons rfl (.run rfl rfl ?_) ?_); (any_goals (first | exact cMove rfl rfl | exact cGeq rfl rfl rfl)); rotate_left))
  intro a w5 hF hb hN
  have hBs := hB.size
  replace hB := hB.trans (hb.mono hB.size)
  dsimp only [ext, Option.getD] at hF
  repeat with_reducible refine nThen ?_
  refine cond_ty hF rfl (fun hlt => ?_) (fun hge => ?_)
  · have hlt : t < 8 := by have := of_decide_eq_true hlt; omega
    have hw := wordF_lt x.l i (sm_getD x) t
    have hw8 : wordF x.l i t < 72057594037927936 := Nat.lt_of_lt_of_le hw (Nat.le_trans (Nat.pow_le_pow_right (by decide) (show t ≤ 7 by omega)) (by decide))
    have hb8 := sm_getD x (8 * i + (7 - t))
    have hor := or_byte (wordF x.l i t) (x.l.getD (8 * i + (7 - t)) 0) hw8 hb8
    have hnext : wordF x.l i (t + 1) = wordF x.l i t * 256 + x.l.getD (8 * i + (7 - t)) 0 := rfl
    have hdr := enc_drop (x := x) (j := 8 * i + (7 - t)) (by omega)
    repeat with_reducible first | refine wp_seq ?_ | refine nThen ?_ | refine wp_skip ?_ | refine wp_block ?_
    generalize wordF x.l i t = W1 at *
    generalize hW2 : wordF x.l i (t + 1) = W2 at *
    generalize x.l.getD (8 * i + (7 - t)) 0 = B at *
    refine' reg_all hF ?_ mixed (by kernel_rfl) ?_
    rotate_left
    · repeat (first | exact Line.nil | ((refine' Line.cons rfl (.run rfl rfl ?_) ?_); (any_goals (first | exact cMove rfl rfl | exact cAssign rfl rfl | exact cShl (r := ((W1 : Int) * 256)) rfl rfl rfl (by decide) (by simp [IntKind.wrap, IntKind.bits, IntKind.signed]; omega) | exact cMul (r := (8 * (i : Int))) rfl rfl rfl (by omega) | exact cAdd (r := ((8 * i + (7 - t) : Nat) : Int)) rfl rfl rfl (by omega) | exact cIndexArr (k := 8 * i + (7 - t)) rfl (.t rfl) rfl Tryd.underlying25 sizeU (by omega) | exact cLoad1 (u := bv B) rfl (Has.c (.t rfl) (fun W v h => hdr ▸ h)) (pts_at _ _) Tryd.underlying5 rfl | exact cConvR (r := (B : Int)) rfl rfl Tryd.underlying5 Tryd.underlying22 (by simp [IntKind.wrap, IntKind.bits, IntKind.signed]; omega) | exact cOr rfl rfl rfl hor)); rotate_left))
    intro a w6 hF hb hN
    have hBs := hB.size
    replace hB := hB.trans (hb.mono hB.size)
    dsimp only [ext, Option.getD] at hF
    repeat with_reducible first | refine nThen ?_ | refine nBlk ?_
    refine' reg_all hF ?_ mixed (by kernel_rfl) ?_
    rotate_left
    · repeat (first | exact Line.nil | ((refine' Line.cons rfl (.run rfl rfl ?_) ?_); (any_goals (first | exact cMove rfl rfl | exact cAssign rfl rfl | exact cSub (r := (7 - ((t + 1 : Nat) : Int))) rfl rfl rfl (by omega))); rotate_left))
    intro a w7 hF hb hN
    have hBs := hB.size
    replace hB := hB.trans (hb.mono hB.size)
    dsimp only [ext, Option.getD] at hF
    repeat with_reducible refine nThen ?_
    refine ⟨m - 1, by omega, t + 1, by omega, ?_, hB⟩
    rw [hW2, hnext]
    exact hF.keep [2, 1, 5, 6]
  · have hge : ¬ t < 8 := by have := of_decide_eq_false hge; omega
    obtain rfl : t = 8 := by omega
    repeat with_reducible first | refine wp_seq ?_ | refine nThen ?_ | refine wp_exit ?_ | refine xThen ?_ | refine xHere ?_
    refine' reg_all hF ?_ mixed (by kernel_rfl) ?_
    rotate_left
    · repeat (first | exact Line.nil | ((refine' Line.cons rfl (.run rfl rfl ?_) ?_); (any_goals (first | exact cMove rfl rfl | exact cAssign rfl rfl)); rotate_left))
    intro a w6 hF hb hN
    have hBs := hB.size
    replace hB := hB.trans (hb.mono hB.size)
    dsimp only [ext, Option.getD] at hF
    repeat with_reducible first | refine nThen ?_ | refine wp_ret ?_
    refine ret1 hF rfl rfl fun z hz => ?_
    exact ⟨z, rfl, hz, hB⟩

end Go.Proofs.YtgmeagkolahkoaaDoor

/- Layer 14 by types: TrailingZeros64, Level. -/
namespace Go.Proofs.YtgmeagkolahkoaaDoor
open Go.RowKit

section
variable {P : Program} {w0 : World} {Γ : Ctx} {o : Oper}
theorem cNegV {t : TypeId} {x : Operand} {k : IntKind} {m : Int} (ho : o.op = .unOp .neg t x) (hx : OpT Γ x (Ty.ex (.int k m))) : OpOk P w0 Γ o (Ty.ex (.int k (k.wrap (-m)))) :=
  .val fun a w _ hs => by
    obtain ⟨v, h1, h2⟩ := hs x _ (by simp [ho, Op.operands]) hx
    have h2 : v = .int k m := h2
    exact ⟨_, rfl, by unfold execOp; simp [ho, h1, h2, Op.unary, Op.intArith]⟩
theorem cAnd {t t2 : TypeId} {x y : Operand} {k : IntKind} {m n r : Int} (ho : o.op = .binOp .and t x y t2) (hx : OpT Γ x (Ty.ex (.int k m))) (hy : OpT Γ y (Ty.ex (.int k n))) (hr : bits .and k m n = r) : OpOk P w0 Γ o (Ty.ex (.int k r)) :=
  cBin ho hx hy fun w => by subst hr; simp [eqGuard, binOp, Op.intBits, bits]
theorem cNegR {t : TypeId} {x : Operand} {k : IntKind} {m r : Int} (ho : o.op = .unOp .neg t x) (hx : OpT Γ x (Ty.ex (.int k m))) (hr : k.wrap (-m) = r) : OpOk P w0 Γ o (Ty.ex (.int k r)) := by
  have h := cNegV (P := P) (w0 := w0) ho hx
  rwa [hr] at h
theorem cMulR {t t2 : TypeId} {x y : Operand} {k : IntKind} {m n r : Int} (ho : o.op = .binOp .mul t x y t2) (hx : OpT Γ x (Ty.ex (.int k m))) (hy : OpT Γ y (Ty.ex (.int k n))) (hr : k.wrap (m * n) = r) : OpOk P w0 Γ o (Ty.ex (.int k r)) := by
  have h := cMulW (P := P) (w0 := w0) ho hx hy
  rwa [hr] at h
theorem cIndexArrR {t ea : TypeId} {x ix : Operand} {n k : Nat} {kd : IntKind} {xs : List Value} (ho : o.op = .indexAddr t x ix) (hx : Has w0 Γ x (Ty.atR xs)) (hi : OpT Γ ix (Ty.ex (.int kd (k : Int)))) (hu : P.underlying t = some (.array n ea)) (hz : (P.info? ea).map (·.size) = some 1) (hk : k < n) (hne : k < xs.length) : OpOk P w0 Γ o (Ty.atR (xs.drop k)) :=
  .val fun a w hb hs => by
    obtain ⟨v, h1, ad, rfl, h2, h3⟩ := hx.see hs (by simp [ho, Op.operands]) hb
    obtain ⟨i, h5, h6⟩ := hs ix _ (by simp [ho, Op.operands]) hi
    have h6 : i = .int kd (k : Int) := h6
    obtain ⟨inf, hinf, hsz⟩ := Option.map_eq_some_iff.1 hz
    refine ⟨_, ⟨ad.add k, rfl, rd_add h2 k, by simp; omega⟩, ?_⟩
    unfold execOp
    simp [ho, h1, h5, h6, Instr.indexAt, Instr.sureAddr, asIntOf, run_underlying hu, hk, sizeOf, typeInfo, hinf, hsz]
theorem cMinI {t1 t2 : TypeId} {x : Operand} {m n : Int} (ho : o.op = .call { callee := .builtin .min, args := #[x, .const (.int .i64 n)], argTypes := #[t1, t2] }) (hx : OpT Γ x (Ty.ex (.int .i64 m))) : OpOk P w0 Γ o (Ty.ex (.int .i64 (min m n))) :=
  .val fun a w _ hs => by
    obtain ⟨v, h1, h2⟩ := hs x _ (by simp [ho, Op.operands, Call.operands]) hx
    have h2 : v = .int .i64 m := h2
    refine ⟨_, rfl, ?_⟩
    unfold execOp
    have hc : a.eval (.const (.int .i64 n)) = .int .i64 n := rfl
    simp [ho, h1, h2, hc, resolve, invoke, builtin, Builtin.min_, Builtin.min2]
    omega
end
def TabOk (w : World) : Prop := (Ty.atR (Lib.deBruijn64tab.map bv)).p w (.pointer (some ⟨0, 0, none⟩))
theorem TabOk.below {w w' : World} (h : TabOk w) (hb : Below w.heap.size w w') : TabOk w' := (Ty.atR (Lib.deBruijn64tab.map bv)).below h hb
theorem e58 : (2 : Int) ^ (58 : Int).toNat = 288230376151711744 := by decide
theorem n58 : (0 : Int) ≤ 58 ∧ (58 : Int).toNat ≤ IntKind.u64.bits := by decide
theorem map_len {L : List Nat} {I n : Nat} (hl : L.length = n) (hi : I < n) : I < (L.map bv).length := by rw [List.length_map, hl]; exact hi
theorem drop_tab {L : List Nat} {I K n : Nat} (hl : L.length = n) (hi : I < n) (h : L.getD I 0 = K) : (L.map bv).drop I = bv K :: (L.map bv).drop (I + 1) := by
  have h1 : I < (L.map bv).length := map_len hl hi
  rw [List.drop_eq_getElem_cons h1]
  congr 1
  rw [List.getElem_map]
  have hl2 : I < L.length := by rw [hl]; exact hi
  simp only [List.getD, List.getElem?_eq_getElem hl2, Option.getD_some] at h
  rw [h]
theorem tab_len : Lib.deBruijn64tab.length = 64 := by decide
set_option maxRecDepth 100000 in
theorem tz_zero (w : World) : Ret Tryd.prog 40 #[.int .u64 0] w (Ty.ex (.int .i64 64)) := by
    refine enter_ty 14 [Ty.ex (.int .u64 0)] Tryd.func40 rfl (by kernel_rfl) ⟨rfl, trivial⟩ fun a hF => ?_
    have hB := Below.refl w.heap.size w
    repeat with_reducible first | refine wp_seq ?_ | refine nThen ?_ | refine wp_ret ?_ | refine rThen ?_
    refine' reg_all hF ?_ mixed (by kernel_rfl) ?_
    rotate_left
    · repeat (first
          | exact Line.nil
          | ((refine' Line.cons rfl (.run rfl rfl ?_) ?_)
             any_goals (first | exact cMove rfl rfl | exact cAssign rfl rfl | exact cEql rfl rfl rfl)
             rotate_left))
    intro a w1 hF hb hN
    have hBs := hB.size
    replace hB := hB.trans (hb.mono hB.size)
    dsimp only [ext, Option.getD] at hF
    repeat with_reducible first | refine wp_seq ?_ | refine nThen ?_ | refine wp_ret ?_ | refine rThen ?_
    refine' reg_all hF ?_ mixed (by kernel_rfl) ?_
    rotate_left
    · repeat (first
          | exact Line.nil
          | ((refine' Line.cons rfl (.run rfl rfl ?_) ?_)
             any_goals (first | exact cMove rfl rfl | exact cAssign rfl rfl | exact OpOk.b (c := true) (cEql rfl rfl rfl) rfl | exact cEql rfl rfl rfl)
             rotate_left))
    intro a w2 hF hb hN
    have hBs := hB.size
    replace hB := hB.trans (hb.mono hB.size)
    dsimp only [ext, Option.getD] at hF
    repeat with_reducible first | refine wp_seq ?_ | refine nThen ?_ | refine wp_ret ?_ | refine rThen ?_
    refine cond_t hF rfl ?_
    repeat with_reducible first | refine wp_seq ?_ | refine nThen ?_ | refine wp_ret ?_ | refine rThen ?_
    refine' reg_all hF ?_ mixed (by kernel_rfl) ?_
    rotate_left
    · repeat (first
          | exact Line.nil
          | ((refine' Line.cons rfl (.run rfl rfl ?_) ?_)
             any_goals (first | exact cMove rfl rfl | exact cAssign rfl rfl | exact cEql rfl rfl rfl)
             rotate_left))
    intro a w3 hF hb hN
    have hBs := hB.size
    replace hB := hB.trans (hb.mono hB.size)
    dsimp only [ext, Option.getD] at hF
    repeat with_reducible first | refine wp_seq ?_ | refine nThen ?_ | refine wp_ret ?_ | refine rThen ?_
    refine ret1 hF rfl rfl fun z hz => ?_
    exact ⟨z, rfl, hz, hB⟩
set_option maxRecDepth 100000 in
theorem tz_ret (x : Nat) (hx : x < 18446744073709551616) (w : World) (hT0 : TabOk w) : Ret Tryd.prog 40 #[.int .u64 (x : Int)] w (Ty.ex (.int .i64 (Lib.ctz 64 x : Nat))) := by
  have hT := hT0
  unfold TabOk at hT
  clear hT0
  by_cases h0 : x = 0
  · subst h0
    exact tz_zero w
  · obtain ⟨hlow, hk⟩ := Lib.lowest_bit 64 x h0 hx
    have hkey := tz64_key x _ hx h0 hlow
    obtain ⟨hi, htab⟩ := Lib.deBruijn64_at _ hk
    generalize Lib.ctz 64 x = K at *
    clear hlow
    generalize hN1 : IntKind.u64.wrap (-(x : Int)) = N1 at hkey
    generalize hN2 : bits BinOp.and IntKind.u64 (x : Int) N1 = N2 at hkey
    generalize hN3 : IntKind.u64.wrap (N2 * 285870213051353865) = N3 at hkey
    have hN4 : N3.fdiv (2 ^ (58 : Int).toNat) = N3 / 288230376151711744 := by rw [e58, Int.fdiv_eq_ediv_of_nonneg _ (by decide)]
    rw [← hN4] at hkey
    clear hN4
    generalize 2 ^ K * 285870213051353865 % 18446744073709551616 / 288230376151711744 = I at *
    have hdr := drop_tab tab_len hi htab
    have htl : I < (Lib.deBruijn64tab.map bv).length := map_len tab_len hi
    generalize Lib.deBruijn64tab.map bv = TL at *
    refine enter_ty 14 [Ty.ex (.int .u64 (x : Int))] Tryd.func40 rfl (by kernel_rfl) ⟨rfl, trivial⟩ fun a hF => ?_
    have hB := Below.refl w.heap.size w
    repeat with_reducible first | refine wp_seq ?_ | refine nThen ?_ | refine wp_skip ?_ | refine wp_ret ?_
    refine' reg_all hF ?_ mixed (by kernel_rfl) ?_
    rotate_left
    · repeat (first
          | exact Line.nil
          | ((refine' Line.cons rfl (.run rfl rfl ?_) ?_)
             any_goals (first | exact cMove rfl rfl | exact cAssign rfl rfl | exact cEql rfl rfl rfl)
             rotate_left))
    intro a w1 hF hb hN
    have hBs := hB.size
    replace hB := hB.trans (hb.mono hB.size)
    dsimp only [ext, Option.getD] at hF
    repeat with_reducible first | refine wp_seq ?_ | refine nThen ?_ | refine wp_skip ?_ | refine wp_ret ?_
    refine' reg_all hF ?_ mixed (by kernel_rfl) ?_
    rotate_left
    · repeat (first
          | exact Line.nil
          | ((refine' Line.cons rfl (.run rfl rfl ?_) ?_)
             any_goals (first | exact cMove rfl rfl | exact cAssign rfl rfl | exact OpOk.b (c := false) (cEql rfl rfl rfl) (decide_eq_false (by omega)) | exact cEql rfl rfl rfl)
             rotate_left))
    intro a w2 hF hb hN
    have hBs := hB.size
    replace hB := hB.trans (hb.mono hB.size)
    dsimp only [ext, Option.getD] at hF
    repeat with_reducible first | refine wp_seq ?_ | refine nThen ?_ | refine wp_skip ?_ | refine wp_ret ?_
    refine cond_f hF rfl ?_
    repeat with_reducible first | refine wp_seq ?_ | refine nThen ?_ | refine wp_skip ?_ | refine wp_ret ?_
    have hT2 := (Ty.atR TL).below hT hB
    refine' reg_all hF ?_ mixed (by kernel_rfl) ?_
    rotate_left
    · repeat (first
          | exact Line.nil
          | ((refine' Line.cons rfl (.run rfl rfl ?_) ?_)
             any_goals (first | exact cMove rfl rfl | exact cAssign rfl rfl | exact cNegR rfl rfl hN1 | exact cAnd rfl rfl rfl hN2 | exact cMulR rfl rfl rfl hN3 | exact cShr (r := (I : Int)) rfl rfl rfl n58 hkey | exact cIndexArrR (k := I) rfl (.l rfl hT2) rfl Tryd.underlying130 sizeU hi htl | exact cLoad1 (u := bv K) rfl (Has.c (.t rfl) (fun W v h => hdr ▸ h)) (pts_atR _) Tryd.underlying5 rfl | exact cConvR (r := (K : Int)) rfl rfl Tryd.underlying5 Tryd.underlying3 (by simp [IntKind.wrap, IntKind.bits, IntKind.signed]; omega) | exact cEql rfl rfl rfl)
             rotate_left))
    intro a w3 hF hb hN
    have hBs := hB.size
    replace hB := hB.trans (hb.mono hB.size)
    dsimp only [ext, Option.getD] at hF
    repeat with_reducible first | refine wp_seq ?_ | refine nThen ?_ | refine wp_skip ?_ | refine wp_ret ?_
    refine ret1 hF rfl rfl fun z hz => ?_
    exact ⟨z, rfl, hz, hB⟩
end Go.Proofs.YtgmeagkolahkoaaDoor

/- Walks: the reference's keys; turned at all widths in use. -/
namespace Go.Proofs.YtgmeagkolahkoaaDoor
open Go.RowKit

end Go.Proofs.YtgmeagkolahkoaaDoor

/- The walk of the reference's block. -/
namespace Go.Proofs.YtgmeagkolahkoaaDoor
open Go.RowKit

end Go.Proofs.YtgmeagkolahkoaaDoor

/- The walk of tallymanref1.Xor. -/
namespace Go.Proofs.YtgmeagkolahkoaaDoor
open Go.RowKit

end Go.Proofs.YtgmeagkolahkoaaDoor

/- append to a slice of bytes of the call's own. -/
namespace Go.Proofs.YtgmeagkolahkoaaDoor
open Go.RowKit

section
variable {ops : Array Oper} {rest : List Oper} {o : Oper} {a : Act} {w : World} {K : Act → World → Prop} {Q : Exit → Act → World → Prop}
end
end Go.Proofs.YtgmeagkolahkoaaDoor

/- A load of a known run, as a still step. -/
namespace Go.Proofs.YtgmeagkolahkoaaDoor
open Go.RowKit

end Go.Proofs.YtgmeagkolahkoaaDoor

/- Words: slices of slices of bytes. -/
namespace Go.Proofs.YtgmeagkolahkoaaDoor
open Go.RowKit

theorem later {w w' : World} {p : Addr} {v : Value} (hb : Below w.heap.size w w') (h : w.cell? p = some v) : w'.cell? p = some v :=
  (hb.cell (World.block_lt_of_cell? w _ h)).trans h

end Go.Proofs.YtgmeagkolahkoaaDoor

/- The walk of the reference's Of. -/
namespace Go.Proofs.YtgmeagkolahkoaaDoor
open Go.RowKit

end Go.Proofs.YtgmeagkolahkoaaDoor

/- Layer 14 by types: PutSum, Level. -/
namespace Go.Proofs.YtgmeagkolahkoaaDoor
open Go.RowKit

/-- How often a number may be halved, at most f times. -/
def halves : Nat → Nat → Nat
  | 0, _ => 0
  | f + 1, x => if x % 2 = 0 then 1 + halves f (x / 2) else 0
theorem halves_le : ∀ f x, halves f x ≤ f
  | 0, _ => Nat.le_refl _
  | f + 1, x => by
    have := halves_le f (x / 2)
    unfold halves
    split <;> omega
theorem ctz_halves : ∀ (g f x : Nat), g ≤ f → 0 < x → min (Lib.ctzFrom f x) g = halves g x
  | 0, f, x, _, _ => by simp [halves]
  | g + 1, 0, x, h, _ => by omega
  | g + 1, f + 1, x, h, h0 => by
    unfold Lib.ctzFrom halves
    by_cases h2 : x % 2 = 1
    · rw [if_pos h2, if_neg (by omega)]; omega
    · rw [if_neg h2, if_pos (by omega)]
      have := ctz_halves g f (x / 2) (by omega) (by omega)
      omega
theorem halves_zero : ∀ g, halves g 0 = g
  | 0 => rfl
  | g + 1 => by
    unfold halves
    rw [if_pos (by rfl), show 0 / 2 = 0 from rfl, halves_zero g]
    omega
theorem ctz_nine (x : Nat) : min (Lib.ctz 64 x) 9 = halves 9 x := by
  by_cases h : x = 0
  · subst h; rw [halves_zero]; rfl
  · have e : Lib.ctz 64 x = Lib.ctzFrom 64 x := by simp [Lib.ctz, h]
    rw [e]
    exact ctz_halves 9 64 x (by omega) (by omega)
/-- A sum's level. -/
def levelS (x : Sm) : Nat := halves 9 (wordF (shaS (76 :: x.l)).l 3 8)
theorem word_lt (x : Sm) (i : Nat) : wordF x.l i 8 < 18446744073709551616 := Nat.lt_of_lt_of_le (wordF_lt x.l i (sm_getD x) 8) (by decide)

set_option maxRecDepth 100000 in
theorem level_ret (x : Sm) (w : World) (hT : TabOk w) : Ret Tryd.prog 22 #[.agg (u8s x.l)] w (Ty.ex (.int .i64 (levelS x : Nat))) := by
  have hO := sumOf2_ty (e := 64) (τ := Ty.sl 5 1 [bv 76]) (σ := Ty.sl 25 32 x.enc) [76] x.l (reads_sl _ _ _) (by rw [x.len]; exact reads_sl _ _ _) (by simp) x.lt (by rw [x.len]; decide)
  have hl : levelS x = min (Lib.ctz 64 (wordF (shaS (76 :: x.l)).l 3 8)) 9 := (ctz_nine _).symm
  rw [hl]
  have hY : shaL ([76] ++ x.l) = (shaS (76 :: x.l)).l := rfl
  rw [hY] at hO
  generalize shaS (76 :: x.l) = Y at *
  clear hY hl
  have hW := sword_ty Y 3 (by decide)
  have hWl := word_lt Y 3
  generalize wordF Y.l 3 8 = V at *
  have heT : Enters Tryd.prog 40 := fun args w => by kernel_rfl
  refine enter_ty 12 [Ty.ex (.agg (u8s x.l))] Tryd.func22 rfl (by kernel_rfl) ⟨rfl, trivial⟩ fun a hF => ?_
  have hB := Below.refl w.heap.size w
  repeat with_reducible first | refine wp_seq ?_ | refine nThen ?_ | refine wp_ret ?_
  refine' reg_all hF ?_ mixed (by kernel_rfl) ?_
  rotate_left
  · repeat (first
        | exact Line.nil
        | ((refine' Line.cons rfl (.run rfl rfl ?_) ?_)
           any_goals (first | exact cAssign rfl rfl | exact cBoxSum rfl rfl)
           rotate_left))
  intro a w1 hF hb hN
  have hBs := hB.size
  replace hB := hB.trans (hb.mono hB.size)
  dsimp only [ext, Option.getD] at hF
  repeat with_reducible first | refine wp_seq ?_ | refine nThen ?_ | refine wp_ret ?_
  refine' region_ty 5 mixed (by kernel_rfl) hF ?_ ?_
  rotate_left
  · simp only [List.take_succ_cons, List.take_zero]
    repeat (first
        | exact Line.nil
        | (refine' Line.cons rfl (.new rfl rfl (run_alloc_i infoS) rfl) ?_; rotate_left)
        | ((refine' Line.cons rfl (.run rfl rfl ?_) ?_)
           any_goals (first | exact cAssign rfl rfl | exact cBuildV (vs := [.int .u8 76]) rfl (parts1v rfl rfl) Tryd.underlying64 infoU8 rfl (by simp [Value.cells]) (by decide) (by simp [maxLen]) | exact cSliceArr rfl (.t rfl) Tryd.underlying25 sizeU (by simp [maxLen]) | exact cBuildT (τs := [Ty.sl 5 1 [bv 76], Ty.sl 25 32 x.enc]) rfl (partsT2 rfl (.t rfl) (.t rfl) (Ty.sl_isSl _ _ _) (Ty.sl_isSl _ _ _)) Tryd.underlying95 infoB rfl | exact cCall1 rfl rfl hO)
           rotate_left))
  intro a w2 hF hb hN
  have hBs := hB.size
  replace hB := hB.trans (hb.mono hB.size)
  simp only [List.take_succ_cons, List.take_zero, List.drop_succ_cons, List.drop_zero] at hF hN ⊢
  dsimp only [ext, Option.getD] at hF
  obtain ⟨z, ⟨gx, rfl, hgx, hbx⟩, hF⟩ := hF.open (s := 3) rfl
  have hgx : w1.heap.size ≤ gx := hgx
  have hw1 : w.heap.size ≤ w1.heap.size := hBs
  refine tlStoreV (Δ := [(3, Ty.ex (.pointer (some ⟨gx, 0, none⟩)))]) hF rfl rfl rfl rfl (hF.getEx (s := 7) rfl) hbx (by show (u8s _).size = (u8s _).size; rw [u8s_size, u8s_size, Sm.len]; rfl) (by show _ = some (u8s _).size; rw [u8s_size, Sm.len]; exact sizeS) (u8s_one _) (hF.keep [3]) rfl ?_
  intro w3 hF hbx hkx
  refine wpList_nil ?_
  repeat with_reducible first | refine wp_seq ?_ | refine nThen ?_ | refine wp_ret ?_
  replace hB := below_own hB hkx (by intro y hy; simp only [List.mem_singleton] at hy; omega)
  have hax : (Ty.at_ 25 Y.enc).p w3 (.pointer (some ⟨gx, 0, none⟩)) := by
    have h := blk_at hbx
    rwa [show (Value.agg (u8s Y.l)).cells.toList = Y.enc from u8s_list _] at h
  have hT3 := hT.below hB
  refine' reg_all hF ?_ mixed (by kernel_rfl) ?_
  rotate_left
  · repeat (first
        | exact Line.nil
        | ((refine' Line.cons rfl (.run rfl rfl ?_) ?_)
           any_goals (first | exact cAssign rfl rfl | exact cLoadSum rfl (.l rfl hax) Tryd.underlying25 sizeS | exact cCall2 rfl rfl rfl hW | exact cCallX1 (f := 40) (v := .int .u64 (V : Int)) rfl rfl heT (fun W hb => tz_ret V hWl W (hT3.below hb)) | exact cMinI rfl rfl)
           rotate_left))
  intro a w4 hF hb hN
  have hBs := hB.size
  replace hB := hB.trans (hb.mono hB.size)
  dsimp only [ext, Option.getD] at hF
  repeat with_reducible first | refine wp_seq ?_ | refine nThen ?_ | refine wp_ret ?_
  refine ret1 hF rfl rfl fun z hz => ?_
  refine ⟨z, rfl, ?_, hB⟩
  have hz : z = .int .i64 (min ((Lib.ctz 64 V : Nat) : Int) 9) := hz
  rw [hz]
  show _ = _
  congr 1
  omega
end Go.Proofs.YtgmeagkolahkoaaDoor

/- Layer 14 by types: PutSum, the document's Level. -/
namespace Go.Proofs.YtgmeagkolahkoaaDoor
open Go.RowKit

theorem cBuildB1 {w0 : World} {Γ : Ctx} {o : Oper} {c : Value} (ho : o.op = .buildSlice 64 1 #[(0, .const c)]) (hc : c.cells = #[c]) : OpOk Tryd.prog w0 Γ o (Ty.seg w0 5 1 1 [c]) :=
  .new fun a w hb hs => by
    have hr := run_buildSlice (P := Tryd.prog) (t := 64) 1 [c] Tryd.underlying64 infoU8 rfl (by simp [hc]) (by decide) w
    have h1 : ([c].map fun v => v.cells.toList).flatten.toArray = #[c] := by simp [hc]
    rw [h1] at hr
    refine ⟨.slice (some ⟨w.heap.size, 0, none⟩) 1 1, _, ⟨[w.heap.size], Seg.ofBlk (Blk.new w 5 #[c]) rfl (by simp [maxLen]), by simpa using hb.size⟩, ((Keeps.refl [] w).alloc _).below, ?_⟩
    unfold execOp
    simp only [ho]
    rw [show ((#[(0, (.const c : Operand))] : Array (Nat × Operand)).map fun (i, x) => (i, a.eval x)) = (([c]).zipIdx.map fun p => (p.2, p.1)).toArray by simp [Act.eval], Sem.run_bind, hr]
    rfl
theorem cRemU {P : Program} {w0 : World} {Γ : Ctx} {o : Oper} {t t2 : TypeId} {x y : Operand} {k : IntKind} {m n r : Nat} (ho : o.op = .binOp .rem t x y t2) (hx : OpT Γ x (Ty.ex (.int k (m : Int)))) (hy : OpT Γ y (Ty.ex (.int k (n : Int)))) (hn : 0 < n) (hr : m % n = r) : OpOk P w0 Γ o (Ty.ex (.int k (r : Int))) := by
  have h := cRem (P := P) (w0 := w0) ho hx hy (by omega)
  rwa [← Int.ofNat_tmod, hr] at h
end Go.Proofs.YtgmeagkolahkoaaDoor

/- Layer 14 by types: place.Of. -/
namespace Go.Proofs.YtgmeagkolahkoaaDoor
open Go.RowKit

def leB (s : Nat) : Nat → List Nat
  | 0 => []
  | k + 1 => leB s k ++ [s / 256 ^ k % 256]
theorem leB_len (s : Nat) : ∀ k, (leB s k).length = k
  | 0 => rfl
  | k + 1 => by rw [leB, List.length_append, leB_len s k]; rfl
theorem leB_lt (s : Nat) : ∀ k, ∀ x ∈ leB s k, x < 256
  | 0, x, h => by simp [leB] at h
  | k + 1, x, h => by
    rw [leB, List.mem_append] at h
    rcases h with h | h
    · exact leB_lt s k x h
    · simp at h; omega
def ivn (k : Nat) : Value := .int .i64 (k : Int)
def plc (s : Sm) (p : Nat) : Nat → List Nat
  | 0 => []
  | k + 1 => plc s p k ++ [k * p + wordF s.l k 8 % p]
theorem plc_len (s : Sm) (p : Nat) : ∀ k, (plc s p k).length = k
  | 0 => rfl
  | k + 1 => by rw [plc, List.length_append, plc_len s p k]; rfl
def placeS (seed : Nat) (x : Sm) : Sm := shaS ((80 :: leB seed 8) ++ x.l)
def placesN (seed : Nat) (n : Int) (x : Sm) : List Nat := if goodN n then plc (placeS seed x) (n.toNat / 3) 3 else []
theorem infoInt : (Tryd.prog.info? 3).map (fun i => (i.zero, i.size, i.bytes)) = some (some (.int .i64 0), 1, 8) := by kernel_rfl
theorem cQuoI {P : Program} {w0 : World} {Γ : Ctx} {o : Oper} {t t2 : TypeId} {x y : Operand} {m n r : Nat} (ho : o.op = .binOp .quo t x y t2) (hx : OpT Γ x (Ty.ex (.int .i64 (m : Int)))) (hy : OpT Γ y (Ty.ex (.int .i64 (n : Int)))) (hn : 0 < n) (hr : m / n = r) (hb : r ≤ 9223372036854775807) : OpOk P w0 Γ o (Ty.ex (.int .i64 (r : Int))) := by
  have h := cQuoW (P := P) (w0 := w0) ho hx hy (by omega)
  rwa [← Int.ofNat_tdiv, hr, show IntKind.i64.wrap (r : Int) = r from IntWalk.i64_in _ (by omega)] at h
theorem e8 : (2 : Int) ^ (8 : Int).toNat = 256 := by decide
theorem n8 : (0 : Int) ≤ 8 ∧ (8 : Int).toNat ≤ IntKind.u64.bits := by decide
theorem shr8 (Z : Nat) : ((Z : Int)).fdiv (2 ^ (8 : Int).toNat) = ((Z / 256 : Nat) : Int) := by rw [e8, Int.fdiv_eq_ediv_of_nonneg _ (by decide)]; omega

set_option maxRecDepth 100000 in
set_option maxHeartbeats 2000000 in
theorem places_ty (seed : Nat) (n : Int) (x : Sm) (hsd : seed < 18446744073709551616) : Fn3 Tryd.prog 42 (Ty.ex (.int .u64 (seed : Int))) (Ty.ex (.int .i64 n)) (Ty.ex (.agg (u8s x.l))) (Ty.sl 3 (placesN seed n x).length ((placesN seed n x).map ivn)) := by
  refine ⟨fun args w => by kernel_rfl, fun w v u q hv hu hq => ?_⟩
  have hg := good14_ty n
  by_cases hgn : goodN n = true
  rotate_left
  · have hgn : goodN n = false := by simpa using hgn
    have e : placesN seed n x = [] := by unfold placesN; rw [hgn]; rfl
    rw [e]
    rw [hgn] at hg
    refine enter_ty 51 [Ty.ex (.int .u64 (seed : Int)), Ty.ex (.int .i64 n), Ty.ex (.agg (u8s x.l))] Tryd.func42 rfl (by kernel_rfl) ⟨hv, hu, hq, trivial⟩ fun a hF => ?_
    have hB := Below.refl w.heap.size w
    repeat with_reducible refine wp_seq ?_
    refine' reg_all hF ?_ mixed (by kernel_rfl) ?_
    rotate_left
    · repeat (first | exact Line.nil | ((refine' Line.cons rfl (.run rfl rfl ?_) ?_); (any_goals (first | exact cAssign rfl rfl | exact cBoxSum rfl rfl)); rotate_left))
    intro a w1 hF hb hN
    have hBs := hB.size
    replace hB := hB.trans (hb.mono hB.size)
    dsimp only [ext, Option.getD] at hF
    repeat with_reducible first | refine wp_seq ?_ | refine nThen ?_
    refine' reg_all hF ?_ mixed (by kernel_rfl) ?_
    rotate_left
    · repeat (first | exact Line.nil | ((refine' Line.cons rfl (.run rfl rfl ?_) ?_); (any_goals (first | exact cMove rfl rfl | exact cNot rfl rfl | exact cCall1 rfl rfl hg)); rotate_left))
    intro a w2 hF hb hN
    have hBs := hB.size
    replace hB := hB.trans (hb.mono hB.size)
    dsimp only [ext, Option.getD] at hF
    repeat with_reducible refine nThen ?_
    refine cond_t hF rfl ?_
    repeat with_reducible refine wp_seq ?_
    refine' reg_all hF ?_ mixed (by kernel_rfl) ?_
    rotate_left
    · repeat (first | exact Line.nil | ((refine' Line.cons rfl (.run rfl rfl ?_) ?_); (any_goals exact cAssign rfl rfl); rotate_left))
    intro a w3 hF hb hN
    have hBs := hB.size
    replace hB := hB.trans (hb.mono hB.size)
    dsimp only [ext, Option.getD] at hF
    repeat with_reducible first | refine nThen ?_ | refine wp_ret ?_ | refine rThen ?_
    refine ret1 hF rfl rfl fun z hz => ?_
    have hz : z = .slice none 0 0 := hz
    subst hz
    exact ⟨_, rfl, (Seg.nil w3 3 1).sl, hB⟩
  have e : placesN seed n x = plc (placeS seed x) (n.toNat / 3) 3 := by unfold placesN; rw [hgn]; rfl
  rw [e, plc_len]
  have hgd := of_decide_eq_true hgn
  rw [hgn] at hg
  obtain ⟨N, rfl⟩ : ∃ N : Nat, n = (N : Int) := ⟨n.toNat, by omega⟩
  rw [Int.toNat_natCast]
  have hO := sumOf2_ty (e := 64) (τ := Ty.sl 5 9 ((80 :: leB seed 8).map bv)) (σ := Ty.sl 25 32 x.enc) (80 :: leB seed 8) x.l (by rw [show (80 :: leB seed 8).length = 9 by rw [List.length_cons, leB_len]]; exact reads_sl _ _ _) (by rw [x.len]; exact reads_sl _ _ _) (by
    intro y hy
    rcases List.mem_cons.1 hy with rfl | hy
    · decide
    · exact leB_lt seed 8 y hy) x.lt (by rw [x.len, List.length_cons, leB_len]; decide)
  have hY : shaL ((80 :: leB seed 8) ++ x.l) = (placeS seed x).l := rfl
  rw [hY] at hO
  generalize placeS seed x = Y at *
  clear hY e
  refine enter_ty 51 [Ty.ex (.int .u64 (seed : Int)), Ty.ex (.int .i64 (N : Int)), Ty.ex (.agg (u8s x.l))] Tryd.func42 rfl (by kernel_rfl) ⟨hv, hu, hq, trivial⟩ fun a hF => ?_
  have hB := Below.refl w.heap.size w
  repeat with_reducible refine wp_seq ?_
  refine' reg_all hF ?_ mixed (by kernel_rfl) ?_
  rotate_left
  · repeat (first | exact Line.nil | ((refine' Line.cons rfl (.run rfl rfl ?_) ?_); (any_goals (first | exact cAssign rfl rfl | exact cBoxSum rfl rfl)); rotate_left))
  intro a w1 hF hb hN
  have hBs := hB.size
  replace hB := hB.trans (hb.mono hB.size)
  dsimp only [ext, Option.getD] at hF
  repeat with_reducible first | refine wp_seq ?_ | refine nThen ?_
  refine' reg_all hF ?_ mixed (by kernel_rfl) ?_
  rotate_left
  · repeat (first | exact Line.nil | ((refine' Line.cons rfl (.run rfl rfl ?_) ?_); (any_goals (first | exact cMove rfl rfl | exact cNot rfl rfl | exact cCall1 rfl rfl hg)); rotate_left))
  intro a w2 hF hb hN
  have hBs := hB.size
  replace hB := hB.trans (hb.mono hB.size)
  dsimp only [ext, Option.getD] at hF
  repeat with_reducible refine nThen ?_
  refine cond_f hF rfl ?_
  repeat with_reducible first | refine wp_seq ?_ | refine nThen ?_ | refine wp_skip ?_
  refine' reg_all hF ?_ mixed (by kernel_rfl) ?_
  rotate_left
  · repeat (first | exact Line.nil | ((refine' Line.cons rfl (.run rfl rfl ?_) ?_); (any_goals (first | exact cAssign rfl rfl | exact cBuildB1 rfl rfl)); rotate_left))
  intro a w3 hF hb hN
  have hBs := hB.size
  replace hB := hB.trans (hb.mono hB.size)
  dsimp only [ext, Option.getD] at hF
  repeat with_reducible first | refine wp_seq ?_ | refine nThen ?_
  obtain ⟨u7, ⟨S7, hs7, hS7⟩, hF⟩ := hF.open (s := 7) rfl
  refine' reg_all hF ?_ mixed (by kernel_rfl) ?_
  rotate_left
  · repeat (first | exact Line.nil | ((refine' Line.cons rfl (.run rfl rfl ?_) ?_); (any_goals exact cMove rfl rfl); rotate_left))
  intro a w4 hF hb hN
  have hBs := hB.size
  replace hB := hB.trans (hb.mono hB.size)
  dsimp only [ext, Option.getD] at hF
  repeat with_reducible first | refine nThen ?_ | refine wp_block ?_
  refine loop_ty (fun m a wr => ∃ (k : Nat) (u : Value) (S : List Nat), k + m = 8 ∧ Fr 51 [(0, Ty.ex (.int .u64 ((seed / 256 ^ k : Nat) : Int))), (1, Ty.ex (.int .i64 (N : Int))), (5, Ty.at_ 25 x.enc), (7, Ty.ex u), (16, Ty.ex (.int .i64 (k : Int)))] a wr ∧ Below w.heap.size w wr ∧ Seg wr 5 1 u (1 + k) ((80 :: leB seed k).map bv) S ∧ ∀ y ∈ S, w.heap.size ≤ y) 8 ?_ ?_
  · exact ⟨0, u7, S7, by omega, by rw [Nat.pow_zero, Nat.div_one]; exact hF.keep [0, 1, 5, 7, 16], hB, hs7.below hb, fun y hy => by have := hS7 y hy; omega⟩
  clear hF hB
  rintro m a wr ⟨k, u, S, hk, hF, hB, hseg, hS⟩
  repeat with_reducible refine wp_seq ?_
  refine' reg_all hF ?_ mixed (by kernel_rfl) ?_
  rotate_left
  · repeat (first | exact Line.nil | ((refine' Line.cons rfl (.run rfl rfl ?_) ?_); (any_goals exact cLss rfl rfl rfl); rotate_left))
  intro a w5 hF hb hN
  have hBs := hB.size
  replace hB := hB.trans (hb.mono hB.size)
  dsimp only [ext, Option.getD] at hF
  repeat with_reducible first | refine wp_seq ?_ | refine nThen ?_
  replace hseg := hseg.below hb
  refine cond_ty hF rfl (fun hlt => ?_) (fun hge => ?_)
  · have hlt : k < 8 := by have := of_decide_eq_true hlt; omega
    have hnx : (80 :: leB seed k).map bv ++ [bv (seed / 256 ^ k % 256)] = (80 :: leB seed (k + 1)).map bv := by rw [leB]; simp
    have hdv : seed / 256 ^ k / 256 = seed / 256 ^ (k + 1) := by rw [Nat.div_div_eq_div_mul, Nat.pow_succ]
    have hZl : seed / 256 ^ k < 18446744073709551616 := Nat.lt_of_le_of_lt (Nat.div_le_self _ _) hsd
    generalize seed / 256 ^ k = Z at *
    generalize hZ2 : seed / 256 ^ (k + 1) = Z2 at *
    repeat with_reducible first | refine wp_seq ?_ | refine nThen ?_ | refine wp_skip ?_ | refine wp_block ?_
    refine' region_ty 4 mixed (by kernel_rfl) hF ?_ ?_
    rotate_left
    · simp only [List.take_succ_cons, List.take_zero]
      repeat (first | exact Line.nil | ((refine' Line.cons rfl (.run rfl rfl ?_) ?_); (any_goals (first | exact cMove rfl rfl | exact cConvR (r := ((Z % 256 : Nat) : Int)) rfl rfl Tryd.underlying22 Tryd.underlying5 (by simp [IntKind.wrap, IntKind.bits, IntKind.signed]) | exact cBuildV (vs := [bv (Z % 256)]) rfl (parts1v rfl rfl) Tryd.underlying64 infoU8 rfl (by simp [Value.cells, bv]) (by decide) (by simp [maxLen]))); rotate_left))
    intro a w6 hF hb hN
    have hBs := hB.size
    replace hB := hB.trans (hb.mono hB.size)
    simp only [List.take_succ_cons, List.take_zero, List.drop_succ_cons, List.drop_zero] at hF hN ⊢
    dsimp only [ext, Option.getD] at hF
    replace hseg := hseg.below hb
    refine tlAppend (Δ := [(0, Ty.ex (.int .u64 (Z : Int))), (1, Ty.ex (.int .i64 (N : Int))), (5, Ty.at_ 25 x.enc), (16, Ty.ex (.int .i64 (k : Int)))]) (n := 1 + k) (m := 1) (news := [bv (Z % 256)]) hF rfl rfl rfl rfl Tryd.underlying64 infoU8 rfl rfl hseg (.t rfl) sl_news rfl (by simp [bv, Value.oneCell']) (by simp [maxLen]; omega) (by omega) (hF.keep [0, 1, 5, 16]) rfl ?_
    intro a w7 u' S' hF hseg' hk7 hS'
    have hbS : ∀ y ∈ S', w.heap.size ≤ y := own_next hB hS hS'
    replace hB := below_own hB hk7 hS
    rw [hnx] at hseg'
    refine' tlOp hF rfl rfl rfl ?_ ?_
    rotate_left
    · exact cAssign rfl rfl
    intro a w8 hF hb
    have hBs := hB.size
    replace hB := hB.trans (hb.mono hB.size)
    try (refine wpList_nil ?_)
    repeat with_reducible refine nThen ?_
    replace hseg' := hseg'.below hb
    refine' reg_all hF ?_ mixed (by kernel_rfl) ?_
    rotate_left
    · repeat (first | exact Line.nil | ((refine' Line.cons rfl (.run rfl rfl ?_) ?_); (any_goals (first | exact cMove rfl rfl | exact cAssign rfl rfl | exact cShr (r := ((Z / 256 : Nat) : Int)) rfl rfl rfl n8 (shr8 Z))); rotate_left))
    intro a w9 hF hb hN
    have hBs := hB.size
    replace hB := hB.trans (hb.mono hB.size)
    dsimp only [ext, Option.getD] at hF
    repeat with_reducible first | refine nThen ?_ | refine nBlk ?_
    replace hseg' := hseg'.below hb
    refine' reg_all hF ?_ mixed (by kernel_rfl) ?_
    rotate_left
    · repeat (first | exact Line.nil | ((refine' Line.cons rfl (.run rfl rfl ?_) ?_); (any_goals (first | exact cMove rfl rfl | exact cAdd (r := ((k + 1 : Nat) : Int)) rfl rfl rfl (by omega))); rotate_left))
    intro a w10 hF hb hN
    have hBs := hB.size
    replace hB := hB.trans (hb.mono hB.size)
    dsimp only [ext, Option.getD] at hF
    repeat with_reducible refine nThen ?_
    refine ⟨m - 1, by omega, k + 1, u', S', by omega, ?_, hB, hseg'.below hb, hbS⟩
    rw [hZ2, ← hdv]
    exact hF.keep [0, 1, 5, 7, 16]
  have hge : ¬ k < 8 := by have := of_decide_eq_false hge; omega
  obtain rfl : k = 8 := by omega
  have hu5 : (Ty.sl 5 9 ((80 :: leB seed 8).map bv)).p w5 u := hseg.sl
  have hw5 : w.heap.size ≤ w5.heap.size := hB.size
  repeat with_reducible first | refine wp_seq ?_ | refine nThen ?_ | refine wp_exit ?_ | refine xThen ?_ | refine xHere ?_
  refine' region_ty 5 mixed (by kernel_rfl) hF ?_ ?_
  rotate_left
  · simp only [List.take_succ_cons, List.take_zero]
    repeat (first
        | exact Line.nil
        | (refine' Line.cons rfl (.new rfl rfl (run_alloc_i infoS) rfl) ?_; rotate_left)
        | ((refine' Line.cons rfl (.run rfl rfl ?_) ?_)
           any_goals (first | exact cMove rfl rfl | exact cSliceArr rfl (.t rfl) Tryd.underlying25 sizeU (by simp [maxLen]) | exact cBuildT (τs := [Ty.sl 5 9 ((80 :: leB seed 8).map bv), Ty.sl 25 32 x.enc]) rfl (partsT2 rfl (.l rfl hu5) (.t rfl) (Ty.sl_isSl _ _ _) (Ty.sl_isSl _ _ _)) Tryd.underlying95 infoB rfl | exact cCall1 rfl rfl hO)
           rotate_left))
  intro a w6 hF hb hN
  have hBs := hB.size
  replace hB := hB.trans (hb.mono hB.size)
  simp only [List.take_succ_cons, List.take_zero, List.drop_succ_cons, List.drop_zero] at hF hN ⊢
  dsimp only [ext, Option.getD] at hF
  obtain ⟨z, ⟨gx, rfl, hgx, hbx⟩, hF⟩ := hF.open (s := 8) rfl
  have hgx : w5.heap.size ≤ gx := hgx
  refine tlStoreV (Δ := [(1, Ty.ex (.int .i64 (N : Int))), (8, Ty.ex (.pointer (some ⟨gx, 0, none⟩)))]) hF rfl rfl rfl rfl (hF.getEx (s := 29) rfl) hbx (by show (u8s _).size = (u8s _).size; rw [u8s_size, u8s_size, Sm.len]; rfl) (by show _ = some (u8s _).size; rw [u8s_size, Sm.len]; exact sizeS) (u8s_one _) (hF.keep [1, 8]) rfl ?_
  intro w7 hF hbx hkx
  refine wpList_nil ?_
  replace hB := below_own hB hkx (by intro y hy; simp only [List.mem_singleton] at hy; omega)
  have hax : (Ty.at_ 25 Y.enc).p w7 (.pointer (some ⟨gx, 0, none⟩)) := by
    have h := blk_at hbx
    rwa [show (Value.agg (u8s Y.l)).cells.toList = Y.enc from u8s_list _] at h
  replace hF := hF.as hF (s := 8) (σ := Ty.at_ 25 Y.enc) rfl (fun v hv => by have hv : v = .pointer (some ⟨gx, 0, none⟩) := hv; subst hv; exact hax)
  obtain ⟨p, hp⟩ : ∃ p, p = N / 3 := ⟨_, rfl⟩
  have hp1 : 1 ≤ p := by omega
  have hp2 : p ≤ 400 := by omega
  rw [← hp]
  repeat with_reducible first | refine wp_seq ?_ | refine nThen ?_
  refine' reg_all hF ?_ mixed (by kernel_rfl) ?_
  rotate_left
  · repeat (first | exact Line.nil | ((refine' Line.cons rfl (.run rfl rfl ?_) ?_); (any_goals (first | exact cMove rfl rfl | exact cAssign rfl rfl | exact cQuoI (n := 3) (r := p) rfl rfl rfl (by decide) hp.symm (by omega))); rotate_left))
  intro a w8 hF hb hN
  have hBs := hB.size
  replace hB := hB.trans (hb.mono hB.size)
  dsimp only [ext, Option.getD] at hF
  repeat with_reducible first | refine wp_seq ?_ | refine nThen ?_
  refine' reg_all hF ?_ mixed (by kernel_rfl) ?_
  rotate_left
  · repeat (first | exact Line.nil | ((refine' Line.cons rfl (.run rfl rfl ?_) ?_); (any_goals exact cAssign rfl rfl); rotate_left))
  intro a w9 hF hb hN
  have hBs := hB.size
  replace hB := hB.trans (hb.mono hB.size)
  dsimp only [ext, Option.getD] at hF
  repeat with_reducible first | refine wp_seq ?_ | refine nThen ?_
  refine' reg_all hF ?_ mixed (by kernel_rfl) ?_
  rotate_left
  · repeat (first | exact Line.nil | ((refine' Line.cons rfl (.run rfl rfl ?_) ?_); (any_goals exact cMove rfl rfl); rotate_left))
  intro a w10 hF hb hN
  have hBs := hB.size
  replace hB := hB.trans (hb.mono hB.size)
  dsimp only [ext, Option.getD] at hF
  repeat with_reducible first | refine nThen ?_ | refine wp_block ?_
  refine loop_ty (fun m a wr => ∃ (k : Nat) (u : Value) (S : List Nat), k + m = 3 ∧ Fr 51 [(8, Ty.at_ 25 Y.enc), (9, Ty.ex (.int .i64 (p : Int))), (10, Ty.ex u), (32, Ty.ex (.int .i64 (k : Int)))] a wr ∧ Below w.heap.size w wr ∧ Seg wr 3 1 u k ((plc Y p k).map ivn) S ∧ ∀ y ∈ S, w.heap.size ≤ y) 3 ?_ ?_
  · exact ⟨0, _, [], by omega, hF.keep [8, 9, 10, 32], hB, Seg.nil _ _ _, by simp⟩
  clear hF hB
  rintro m a wr ⟨k, u, S, hk, hF, hB, hseg, hS⟩
  repeat with_reducible refine wp_seq ?_
  refine' reg_all hF ?_ mixed (by kernel_rfl) ?_
  rotate_left
  · repeat (first | exact Line.nil | ((refine' Line.cons rfl (.run rfl rfl ?_) ?_); (any_goals exact cLss rfl rfl rfl); rotate_left))
  intro a w11 hF hb hN
  have hBs := hB.size
  replace hB := hB.trans (hb.mono hB.size)
  dsimp only [ext, Option.getD] at hF
  repeat with_reducible first | refine wp_seq ?_ | refine nThen ?_
  replace hseg := hseg.below hb
  refine cond_ty hF rfl (fun hlt => ?_) (fun hge => ?_)
  · have hlt : k < 3 := by have := of_decide_eq_true hlt; omega
    have hW := sword_ty Y k (by omega)
    have hWl := word_lt Y k
    have hnx : (plc Y p k).map ivn ++ [ivn (k * p + wordF Y.l k 8 % p)] = (plc Y p (k + 1)).map ivn := by rw [plc]; simp
    have hm : wordF Y.l k 8 % p < p := Nat.mod_lt _ (by omega)
    have hkp : k * p ≤ 2 * p := Nat.mul_le_mul_right _ (by omega)
    generalize wordF Y.l k 8 = V at *
    generalize hM : V % p = M at *
    repeat with_reducible first | refine wp_seq ?_ | refine nThen ?_ | refine wp_skip ?_ | refine wp_block ?_
    refine' reg_all hF ?_ mixed (by kernel_rfl) ?_
    rotate_left
    · repeat (first | exact Line.nil | ((refine' Line.cons rfl (.run rfl rfl ?_) ?_); (any_goals (first | exact cMove rfl rfl | exact cAssign rfl rfl)); rotate_left))
    intro a w12 hF hb hN
    have hBs := hB.size
    replace hB := hB.trans (hb.mono hB.size)
    dsimp only [ext, Option.getD] at hF
    repeat with_reducible refine nThen ?_
    replace hseg := hseg.below hb
    refine' region_ty 13 mixed (by kernel_rfl) hF ?_ ?_
    rotate_left
    · simp only [List.take_succ_cons, List.take_zero]
      repeat (first | exact Line.nil | ((refine' Line.cons rfl (.run rfl rfl ?_) ?_); (any_goals (first | exact cMove rfl rfl | exact cMul (r := ((k * p : Nat) : Int)) rfl rfl rfl ⟨by rw [Int.natCast_mul], by omega, by omega⟩ | exact cLoadSum rfl (.t rfl) Tryd.underlying25 sizeS | exact cCall2 rfl rfl rfl hW | exact cConvR (r := (p : Int)) rfl rfl Tryd.underlying3 Tryd.underlying22 (by rw [IntKind.wrap_u64]; omega) | exact cRemU (n := p) (r := M) rfl rfl rfl (by omega) hM | exact cConvR (r := (M : Int)) rfl rfl Tryd.underlying22 Tryd.underlying3 (IntWalk.i64_in _ (by omega)) | exact cAdd (r := ((k * p + M : Nat) : Int)) rfl rfl rfl ⟨by rw [Int.natCast_add], by omega, by omega⟩ | exact cBuildV (vs := [ivn (k * p + M)]) rfl (parts1v rfl rfl) Tryd.underlying23 infoInt rfl (by simp [Value.cells, ivn]) (by decide) (by simp [maxLen]))); rotate_left))
    intro a w13 hF hb hN
    have hBs := hB.size
    replace hB := hB.trans (hb.mono hB.size)
    simp only [List.take_succ_cons, List.take_zero, List.drop_succ_cons, List.drop_zero] at hF hN ⊢
    dsimp only [ext, Option.getD] at hF
    replace hseg := hseg.below hb
    refine tlAppend (Δ := [(8, Ty.at_ 25 Y.enc), (9, Ty.ex (.int .i64 (p : Int))), (32, Ty.ex (.int .i64 (k : Int)))]) (n := k) (m := 1) (news := [ivn (k * p + M)]) hF rfl rfl rfl rfl Tryd.underlying23 infoInt rfl rfl hseg (.t rfl) sl_news rfl (by simp [ivn, Value.oneCell']) (by simp [maxLen]; omega) (by omega) (hF.keep [8, 9, 32]) rfl ?_
    intro a w14 u' S' hF hseg' hk14 hS'
    have hbS : ∀ y ∈ S', w.heap.size ≤ y := own_next hB hS hS'
    replace hB := below_own hB hk14 hS
    rw [hnx] at hseg'
    refine' tlOp hF rfl rfl rfl ?_ ?_
    rotate_left
    · exact cAssign rfl rfl
    intro a w15 hF hb
    have hBs := hB.size
    replace hB := hB.trans (hb.mono hB.size)
    try (refine wpList_nil ?_)
    repeat with_reducible first | refine nThen ?_ | refine nBlk ?_
    replace hseg' := hseg'.below hb
    refine' reg_all hF ?_ mixed (by kernel_rfl) ?_
    rotate_left
    · repeat (first | exact Line.nil | ((refine' Line.cons rfl (.run rfl rfl ?_) ?_); (any_goals (first | exact cMove rfl rfl | exact cAdd (r := ((k + 1 : Nat) : Int)) rfl rfl rfl (by omega))); rotate_left))
    intro a w16 hF hb hN
    have hBs := hB.size
    replace hB := hB.trans (hb.mono hB.size)
    dsimp only [ext, Option.getD] at hF
    repeat with_reducible refine nThen ?_
    exact ⟨m - 1, by omega, k + 1, u', S', by omega, hF.keep [8, 9, 10, 32], hB, hseg'.below hb, hbS⟩
  have hge : ¬ k < 3 := by have := of_decide_eq_false hge; omega
  obtain rfl : k = 3 := by omega
  repeat with_reducible first | refine wp_seq ?_ | refine nThen ?_ | refine wp_exit ?_ | refine xThen ?_ | refine xHere ?_
  refine' reg_all hF ?_ mixed (by kernel_rfl) ?_
  rotate_left
  · repeat (first | exact Line.nil | ((refine' Line.cons rfl (.run rfl rfl ?_) ?_); (any_goals (first | exact cMove rfl rfl | exact cAssign rfl rfl)); rotate_left))
  intro a w12 hF hb hN
  have hBs := hB.size
  replace hB := hB.trans (hb.mono hB.size)
  dsimp only [ext, Option.getD] at hF
  repeat with_reducible first | refine nThen ?_ | refine wp_ret ?_
  refine ret1 hF rfl rfl fun z hz => ?_
  have hz : z = u := hz
  subst hz
  exact ⟨z, rfl, (hseg.below hb).sl, hB⟩
end Go.Proofs.YtgmeagkolahkoaaDoor

/- Cells and tables, plainly: sums put in and taken out in whatever order; one less another. -/
namespace Go.Proofs.YtgmeagkolahkoaaDoor
open Go.RowKit

/-- A cell. -/
structure Cl where
  n : Int
  key : Sm
  check : Sm
  deriving DecidableEq
def Cl.enc (c : Cl) : List Value := .int .i64 c.n :: (c.key.enc ++ c.check.enc)
def Cl.a (c : Cl) : Array Value := c.enc.toArray
theorem Cl.enc_len (c : Cl) : c.enc.length = 65 := by simp [Cl.enc, Sm.enc, c.key.len, c.check.len]
theorem Cl.size (c : Cl) : c.a.size = 65 := by simp [Cl.a, c.enc_len]
theorem Cl.one (c : Cl) : c.a.all (·.oneCell') = true := by
  simp [Cl.a, Cl.enc, Sm.enc, Value.oneCell', bv]
def Cl.zero : Cl := ⟨0, Sm.zero, Sm.zero⟩
instance : Inhabited Cl := ⟨Cl.zero⟩
theorem Cl.ext {c d : Cl} (h1 : c.n = d.n) (h2 : c.key = d.key) (h3 : c.check = d.check) : c = d := by
  cases c; cases d; simp only at h1 h2 h3; subst h1 h2 h3; rfl
def chk (x : Sm) : Sm := shaS (67 :: x.l)
def Cl.put (c : Cl) (x : Sm) (n : Int) : Cl := ⟨wrap64 (c.n + n), c.key.xor x, c.check.xor (chk x)⟩
def Cl.minus (c d : Cl) : Cl := ⟨wrap64 (c.n - d.n), c.key.xor d.key, c.check.xor d.check⟩
def Cl.ok (c : Cl) : Bool := (decide (c.n = 1) || decide (c.n = -1)) && decide (c.check = chk c.key)
theorem wrap64_addl (a b : Int) : wrap64 (wrap64 a + b) = wrap64 (a + b) := by unfold wrap64; omega
theorem wrap64_idem (a : Int) : wrap64 (wrap64 a) = wrap64 a := by unfold wrap64; omega
theorem wrap64_sub (a b : Int) : wrap64 (a - wrap64 b) = wrap64 (a - b) := by unfold wrap64; omega
theorem wrap64_subl (a b : Int) : wrap64 (wrap64 a - b) = wrap64 (a - b) := by unfold wrap64; omega
theorem w64_in {a : Int} (h : -9223372036854775808 ≤ a ∧ a ≤ 9223372036854775807) : wrap64 a = a := by unfold wrap64; omega
theorem Sm.xor_swap (a b c : Sm) : (a.xor b).xor c = (a.xor c).xor b := by rw [Sm.xor_assoc, Sm.xor_comm b c, ← Sm.xor_assoc]
def Norm (c : Cl) : Prop := wrap64 c.n = c.n
theorem put_norm (c : Cl) (x : Sm) (n : Int) : Norm (c.put x n) := wrap64_idem _
theorem minus_norm (c d : Cl) : Norm (c.minus d) := wrap64_idem _
theorem zero_norm : Norm Cl.zero := w64_in (by simp [Cl.zero])
theorem put_comm (c : Cl) (x y : Sm) (n m : Int) : (c.put x n).put y m = (c.put y m).put x n := by
  apply Cl.ext
  · show wrap64 (wrap64 (c.n + n) + m) = wrap64 (wrap64 (c.n + m) + n)
    rw [wrap64_addl, wrap64_addl]; congr 1; omega
  · exact Sm.xor_swap _ _ _
  · exact Sm.xor_swap _ _ _
theorem put_back (c : Cl) (x : Sm) {n m : Int} (hnm : n + m = 0) (h : Norm c) : (c.put x n).put x m = c := by
  apply Cl.ext
  · show wrap64 (wrap64 (c.n + n) + m) = c.n
    rw [wrap64_addl, show c.n + n + m = c.n by omega]; exact h
  · show (c.key.xor x).xor x = c.key
    rw [Sm.xor_assoc, Sm.xor_self, Sm.xor_zero]
  · show (c.check.xor (chk x)).xor (chk x) = c.check
    rw [Sm.xor_assoc, Sm.xor_self, Sm.xor_zero]
/-- All put in, n times each. -/
def putAll (n : Int) (c : Cl) (l : List Sm) : Cl := l.foldl (fun c x => c.put x n) c
theorem putAll_append (n : Int) (c : Cl) (l k : List Sm) : putAll n c (l ++ k) = putAll n (putAll n c l) k := by unfold putAll; rw [List.foldl_append]
theorem putAll_norm (n : Int) (l : List Sm) : ∀ c, Norm c → Norm (putAll n c l) := by
  induction l with
  | nil => intro c h; exact h
  | cons x l ih => intro c _; exact ih _ (put_norm _ _ _)
theorem putAll_put (n m : Int) (x : Sm) : ∀ (l : List Sm) (c : Cl), (putAll n c l).put x m = putAll n (c.put x m) l
  | [], _ => rfl
  | y :: l, c => by
    show (putAll n (c.put y n) l).put x m = putAll n ((c.put x m).put y n) l
    rw [putAll_put n m x l, put_comm]
theorem putAll_swap (n m : Int) : ∀ (k l : List Sm) (c : Cl), putAll m (putAll n c l) k = putAll n (putAll m c k) l
  | [], _, _ => rfl
  | x :: k, l, c => by
    show putAll m ((putAll n c l).put x m) k = putAll n (putAll m (c.put x m) k) l
    rw [putAll_put, putAll_swap n m k l]
theorem putAll_back {n m : Int} (hnm : n + m = 0) : ∀ (l : List Sm) (c : Cl), Norm c → putAll m (putAll n c l) l = c
  | [], _, _ => rfl
  | x :: l, c, h => by
    show putAll m ((putAll n (c.put x n) l).put x m) l = c
    rw [putAll_put, put_back c x hnm h]
    exact putAll_back hnm l c h
theorem putAll_perm {n : Int} {l k : List Sm} (h : l.Perm k) (c : Cl) : putAll n c l = putAll n c k := by
  unfold putAll
  exact h.foldl_eq' (fun x _ y _ z => put_comm z x y n n) c
theorem minus_self (c : Cl) : c.minus c = Cl.zero := by
  apply Cl.ext
  · show wrap64 (c.n - c.n) = 0
    rw [show c.n - c.n = 0 by omega]; exact w64_in (by omega)
  · exact Sm.xor_self _
  · exact Sm.xor_self _
theorem minus_zero (c : Cl) (h : Norm c) : c.minus Cl.zero = c := by
  apply Cl.ext
  · show wrap64 (c.n - 0) = c.n
    rw [show c.n - 0 = c.n by omega]; exact h
  · exact Sm.xor_zero _
  · exact Sm.xor_zero _
theorem minus_put (c d : Cl) (x : Sm) {n m : Int} (hnm : n + m = 0) : c.minus (d.put x n) = (c.minus d).put x m := by
  apply Cl.ext
  · show wrap64 (c.n - wrap64 (d.n + n)) = wrap64 (wrap64 (c.n - d.n) + m)
    rw [wrap64_sub, wrap64_addl]; congr 1; omega
  · exact (Sm.xor_assoc _ _ _).symm
  · exact (Sm.xor_assoc _ _ _).symm
theorem minus_putAll {n m : Int} (hnm : n + m = 0) (c : Cl) : ∀ (l : List Sm) (d : Cl), c.minus (putAll n d l) = putAll m (c.minus d) l
  | [], _ => rfl
  | x :: l, d => by
    show c.minus (putAll n (d.put x n) l) = putAll m ((c.minus d).put x m) l
    rw [minus_putAll hnm c l, minus_put c d x hnm]
theorem put_minus (c d : Cl) (x : Sm) (n : Int) : (c.put x n).minus d = (c.minus d).put x n := by
  apply Cl.ext
  · show wrap64 (wrap64 (c.n + n) - d.n) = wrap64 (wrap64 (c.n - d.n) + n)
    rw [wrap64_subl, wrap64_addl]; congr 1; omega
  · exact Sm.xor_swap _ _ _
  · exact Sm.xor_swap _ _ _
theorem putAll_minus (n : Int) (d : Cl) : ∀ (l : List Sm) (c : Cl), (putAll n c l).minus d = putAll n (c.minus d) l
  | [], _ => rfl
  | x :: l, c => by
    show (putAll n (c.put x n) l).minus d = putAll n ((c.minus d).put x n) l
    rw [putAll_minus n d l, put_minus]
/-- Rows of cells. -/
def flatC (L : List Cl) : List Value := L.flatMap Cl.enc
theorem flatC_len (L : List Cl) : (flatC L).length = L.length * 65 := by
  unfold flatC
  induction L with
  | nil => rfl
  | cons x L ih => rw [List.flatMap_cons, List.length_append, ih, Cl.enc_len, List.length_cons, Nat.add_mul]; omega
theorem flatC_drop (L : List Cl) (k : Nat) : (flatC L).drop (k * 65) = flatC (L.drop k) := by
  induction k generalizing L with
  | zero => simp
  | succ k ih =>
    cases L with
    | nil => simp [flatC]
    | cons x L =>
      rw [List.drop_succ_cons, ← ih]
      unfold flatC
      rw [List.flatMap_cons, show (k + 1) * 65 = x.enc.length + k * 65 by rw [Cl.enc_len]; omega, ← List.drop_drop, List.drop_left]
theorem flatC_take (L : List Cl) (k : Nat) : (flatC L).take (k * 65) = flatC (L.take k) := by
  induction k generalizing L with
  | zero => simp [flatC]
  | succ k ih =>
    cases L with
    | nil => simp [flatC]
    | cons x L =>
      rw [List.take_succ_cons]
      unfold flatC
      rw [List.flatMap_cons, List.flatMap_cons, show (k + 1) * 65 = x.enc.length + k * 65 by rw [Cl.enc_len]; omega, List.take_length_add_append]
      congr 1
      exact ih L
theorem dropC_get (L : List Cl) {k : Nat} (h : k < L.length) : L.drop k = L.getD k default :: L.drop (k + 1) := by
  rw [List.drop_eq_getElem_cons h]
  simp [List.getD, List.getElem?_eq_getElem h]
theorem flatC_at (L : List Cl) {k : Nat} (h : k < L.length) : (flatC L).drop (k * 65) = (L.getD k default).enc ++ flatC (L.drop (k + 1)) := by
  rw [flatC_drop, dropC_get L h]
  rfl
theorem flatC_one' {L : List Cl} : ∀ u ∈ flatC L, u.oneCell' = true := by
  intro u hu
  obtain ⟨x, _, h⟩ := List.mem_flatMap.1 hu
  have := x.one
  simp only [Cl.a, Array.all_eq_true_iff_forall_mem] at this
  exact this u (by simpa using h)
theorem over_flatC (D : List Cl) {k : Nat} (x : Cl) (hk : k < D.length) : over (flatC D) (k * 65) x.enc = flatC (D.set k x) := by
  unfold over
  rw [Cl.enc_len, show k * 65 + 65 = (k + 1) * 65 by omega, flatC_take, flatC_drop, List.set_eq_take_append_cons_drop, if_pos hk]
  simp [flatC]

/-! ### Tables -/
def tputAt (L : List Cl) (i : Nat) (x : Sm) (n : Int) : List Cl := L.set i ((L.getD i default).put x n)
/-- x, n times, in its places. -/
def tput (seed : Nat) (L : List Cl) (x : Sm) (n : Int) : List Cl := (placesN seed (L.length : Int) x).foldl (fun L i => tputAt L i x n) L
def tall (seed : Nat) (L : List Cl) (xs : List Sm) (n : Int) : List Cl := xs.foldl (fun L x => tput seed L x n) L
def tminus (L M : List Cl) : List Cl := List.zipWith Cl.minus L M
def tzero (n : Nat) : List Cl := List.replicate n Cl.zero
theorem tputAt_len (L : List Cl) (i : Nat) (x : Sm) (n : Int) : (tputAt L i x n).length = L.length := by simp [tputAt]
theorem foldAt_len (x : Sm) (n : Int) : ∀ (p : List Nat) (L : List Cl), (p.foldl (fun L i => tputAt L i x n) L).length = L.length
  | [], _ => rfl
  | i :: p, L => by rw [List.foldl_cons, foldAt_len x n p, tputAt_len]
theorem tput_len (seed : Nat) (L : List Cl) (x : Sm) (n : Int) : (tput seed L x n).length = L.length := foldAt_len x n _ L
theorem tall_len (seed : Nat) (n : Int) : ∀ (xs : List Sm) (L : List Cl), (tall seed L xs n).length = L.length
  | [], _ => rfl
  | x :: xs, L => by show (tall seed (tput seed L x n) xs n).length = _; rw [tall_len seed n xs, tput_len]
theorem tminus_len {L M : List Cl} (h : L.length = M.length) : (tminus L M).length = L.length := by simp [tminus, h]
theorem getD_set_eq (L : List Cl) {i j : Nat} (v : Cl) (hj : j < L.length) : (L.set i v).getD j default = if i = j then v else L.getD j default := by
  simp only [List.getD, List.getElem?_set]
  by_cases h : i = j
  · subst h; simp [hj]
  · simp [h]
theorem foldAt_get (x : Sm) (n : Int) : ∀ (p : List Nat) (L : List Cl) (j : Nat), p.Nodup → (∀ i ∈ p, i < L.length) → j < L.length →
    (p.foldl (fun L i => tputAt L i x n) L).getD j default = if j ∈ p then (L.getD j default).put x n else L.getD j default
  | [], _, _, _, _, _ => by simp
  | i :: p, L, j, hd, hp, hj => by
    rw [List.nodup_cons] at hd
    rw [List.foldl_cons, foldAt_get x n p _ j hd.2 (fun k hk => by rw [tputAt_len]; exact hp k (by simp [hk])) (by rw [tputAt_len]; exact hj)]
    unfold tputAt
    rw [getD_set_eq L _ hj]
    by_cases hij : i = j
    · subst hij
      simp [hd.1]
    · have hji : ¬ j = i := fun h => hij h.symm
      simp [hij, hji]
theorem list_extD {L M : List Cl} (hl : L.length = M.length) (h : ∀ j, j < L.length → L.getD j default = M.getD j default) : L = M := by
  apply List.ext_getElem hl
  intro i h1 h2
  have := h i h1
  simpa [List.getD, List.getElem?_eq_getElem h1, List.getElem?_eq_getElem h2] using this
theorem plc_lt (s : Sm) {p : Nat} (hp : 0 < p) : ∀ k, ∀ i ∈ plc s p k, i < k * p
  | 0, i, h => by simp [plc] at h
  | k + 1, i, h => by
    rw [plc, List.mem_append] at h
    rw [Nat.succ_mul]
    rcases h with h | h
    · have := plc_lt s hp k i h; omega
    · simp only [List.mem_singleton] at h
      subst h
      have := Nat.mod_lt (wordF s.l k 8) hp
      omega
theorem plc_nodup (s : Sm) {p : Nat} (hp : 0 < p) : ∀ k, (plc s p k).Nodup
  | 0 => by simp [plc]
  | k + 1 => by
    rw [plc, List.nodup_append]
    refine ⟨plc_nodup s hp k, by simp, fun a ha b hb h => ?_⟩
    simp only [List.mem_singleton] at hb
    have := plc_lt s hp k a ha
    omega
theorem places_nodup (seed : Nat) (n : Int) (x : Sm) : (placesN seed n x).Nodup := by
  unfold placesN
  split
  · rename_i h
    have := of_decide_eq_true h
    exact plc_nodup _ (by omega) 3
  · simp
theorem places_lt (seed n : Nat) (x : Sm) : ∀ i ∈ placesN seed (n : Int) x, i < n := by
  intro i hi
  unfold placesN at hi
  split at hi
  · rename_i h
    have := of_decide_eq_true h
    have h1 := plc_lt _ (p := (n : Int).toNat / 3) (by omega) 3 i hi
    simp only [Int.toNat_natCast] at h1
    omega
  · simp at hi
/-- x belongs in cell j. -/
def isAt (seed n : Nat) (j : Nat) (x : Sm) : Bool := decide (j ∈ placesN seed (n : Int) x)
theorem tput_get (seed : Nat) (L : List Cl) (x : Sm) (n : Int) {j : Nat} (hj : j < L.length) : (tput seed L x n).getD j default = if isAt seed L.length j x then (L.getD j default).put x n else L.getD j default := by
  unfold tput
  rw [foldAt_get x n _ L j (places_nodup seed _ x) (fun i hi => places_lt seed _ x i hi) hj]
  unfold isAt
  by_cases h : j ∈ placesN seed (L.length : Int) x <;> simp [h]
theorem tall_get (seed : Nat) (n : Int) {j : Nat} : ∀ (xs : List Sm) (L : List Cl), j < L.length → (tall seed L xs n).getD j default = putAll n (L.getD j default) (xs.filter (isAt seed L.length j))
  | [], L, _ => rfl
  | x :: xs, L, hj => by
    show (tall seed (tput seed L x n) xs n).getD j default = _
    rw [tall_get seed n xs _ (by rw [tput_len]; exact hj), tput_len, tput_get seed L x n hj, List.filter_cons]
    by_cases h : isAt seed L.length j x = true
    · rw [if_pos h, if_pos h]; rfl
    · rw [if_neg h, if_neg h]
theorem tminus_get {L M : List Cl} (h : L.length = M.length) {j : Nat} (hj : j < L.length) : (tminus L M).getD j default = (L.getD j default).minus (M.getD j default) := by
  have hm : j < M.length := by omega
  simp [tminus, List.getD, List.getElem?_zipWith, List.getElem?_eq_getElem hj, List.getElem?_eq_getElem hm]
theorem tzero_get {n j : Nat} (hj : j < n) : (tzero n).getD j default = Cl.zero := by
  simp [tzero, List.getD, hj]
theorem tzero_len (n : Nat) : (tzero n).length = n := by simp [tzero]
def NormT (L : List Cl) : Prop := ∀ j, j < L.length → Norm (L.getD j default)
theorem tzero_norm (n : Nat) : NormT (tzero n) := fun j hj => by
  rw [tzero_len] at hj
  rw [tzero_get hj]; exact zero_norm
theorem tall_norm {seed : Nat} {n : Int} {L : List Cl} (xs : List Sm) (h : NormT L) : NormT (tall seed L xs n) := fun j hj => by
  rw [tall_len] at hj
  rw [tall_get seed n xs L hj]
  exact putAll_norm n _ _ (h j hj)
theorem tput_norm {seed : Nat} {n : Int} {L : List Cl} (x : Sm) (h : NormT L) : NormT (tput seed L x n) := tall_norm (seed := seed) (n := n) [x] h
end Go.Proofs.YtgmeagkolahkoaaDoor

/- The walks of Sum.Xor and Sum.Zero. -/
namespace Go.Proofs.YtgmeagkolahkoaaDoor
open Go.RowKit

theorem info32 : (Tryd.prog.info? 25).map (·.size) = some 32 := by kernel_rfl

set_option maxRecDepth 100000 in
set_option maxHeartbeats 1000000 in
theorem Xor_l (x y : List Nat) (hx : x.length = 32) (hy : y.length = 32) (w : World) :
    Calls Tryd.prog 74 #[.agg (u8s x), .agg (u8s y)] w fun e w' => e = .returned (.agg (u8s (xorL x y))) ∧ Below w.heap.size w w' := by
  have X := x8_eq
  have HX := Lib.hid hx
  have HY := Lib.hid hy
  have hR : (u8s (xorL x y)).size = 32 := by rw [u8s_size, xorL_len (by omega), hx]
  have HR := Lib.hid hR
  have HI := Lib.hid (info32.trans (congrArg some hR.symm))
  have H1 := Lib.hid (u8s_one (xorL x y))
  have HM := Lib.hid (mix8_all hx hy)
  clear hx hy hR
  generalize xorL x y = r at *
  go_enter Tryd.func74, Tryd.ntmps74
  go_wp2_with fail
  have h0 : Blk (((w.alloc (.cells (u8s x) 25)).alloc (.cells (u8s y) 25)).alloc (.cells (u8s (List.replicate 32 0)) 25)) w.heap.size 25 (u8s (mix8 x y 0)) := ((Blk.new w _ _).alloc _).alloc _
  have h1 : Blk (((w.alloc (.cells (u8s x) 25)).alloc (.cells (u8s y) 25)).alloc (.cells (u8s (List.replicate 32 0)) 25)) (w.heap.size + 1) 25 (u8s y) := (Blk.newAt (w.alloc _) _ _ _ (by simp)).alloc _
  have h2 : Blk (((w.alloc (.cells (u8s x) 25)).alloc (.cells (u8s y) 25)).alloc (.cells (u8s (List.replicate 32 0)) 25)) (w.heap.size + 1 + 1) 25 (u8s (List.replicate 32 0)) := Blk.newAt ((w.alloc _).alloc _) _ _ _ (by simp)
  have hb : Below w.heap.size w (((w.alloc (.cells (u8s x) 25)).alloc (.cells (u8s y) 25)).alloc (.cells (u8s (List.replicate 32 0)) 25)) := ((((Keeps.refl [] w).alloc _).alloc _).alloc _).below
  go_loopw [6] (fun i wr => ∃ k : Nat, k ≤ 32 ∧ i = .int .i64 k ∧ Blk wr w.heap.size 25 (u8s (mix8 x y k)) ∧ Blk wr (w.heap.size + 1) 25 (u8s y) ∧ Blk wr (w.heap.size + 1 + 1) 25 (u8s (List.replicate 32 0)) ∧ Below w.heap.size w wr) (fun i _ => 32 - (intOf i).toNat)
  case atStart => exact ⟨0, by omega, rfl, h0, h1, h2, hb⟩
  case round =>
    clear h0 h1 h2 hb
    obtain ⟨k, hk, rfl, h0, h1, h2, hb⟩ := hrel
    by_cases hk32 : k < 32
    · have c0 : wr.cell? ⟨w.heap.size, k, none⟩ = some (.int .u8 ((x.getD k 0 : Nat) : Int)) := by rw [h0.cell, u8s_get (by rw [mix8_len HX.out HY.out (by omega)]; exact hk32), mix8_get HX.out HY.out hk32]
      have c1 : wr.cell? ⟨w.heap.size + 1, k, none⟩ = some (.int .u8 ((y.getD k 0 : Nat) : Int)) := by rw [h1.cell, u8s_get (by rw [HY.out]; exact hk32)]
      have f0 := h0.frozen k
      have hS := h0.set k (.int .u8 ((x8 (x.getD k 0) (y.getD k 0) : Nat) : Int))
      rw [mix8_set HX.out HY.out hk32] at hS
      generalize x.getD k 0 = a at *
      generalize y.getD k 0 = b at *
      have r0 : (k : Int) < 32 := by omega
      have r1 : (0 : Int) ≤ (k : Int) := by omega
      go_wp2_with fail
      go_still_tail 8, (by kernel_rfl)
      go_wp2_with fail
      go_roundw
      case rel => exact ⟨k + 1, by omega, by go_num, hS.drew, (h1.far (p := ⟨w.heap.size, k, none⟩) (by simp) _).drew, (h2.far (p := ⟨w.heap.size, k, none⟩) (by simp; omega) _).drew, (hb.setCell (p := ⟨w.heap.size, k, none⟩) (by simp) _).drew⟩
      case measure => simp [intOf]; omega
    · obtain rfl : k = 32 := by omega
      rw [HM.out] at h0
      have HZ : Hid ((u8s r).size = (u8s (List.replicate 32 0)).size) := by unfold Hid; rw [HR.out, u8s_size]; rfl
      go_wp2_with (first
        | (refine wpList_load_blk rfl 25 (.tmp 2) rfl w.heap.size rfl 25 (u8s r) _ h0 Tryd.underlying25 rfl HI.out ?_)
        | (refine wpList_store_blk rfl 25 (.tmp 4) (.tmp 18) rfl (w.heap.size + 1 + 1) 25 _ (u8s r) rfl rfl h2 HZ.out HI.out H1.out ?_; intro w' hB' hk'))
      refine post_blk rfl rfl (w.heap.size + 1 + 1) 25 (u8s r) _ rfl hB' Tryd.underlying25 rfl HI.out ⟨rfl, ?_⟩
      exact ((Keeps.of_below (S := []) hb).trans' hk' (by simp; omega)).below
theorem Xor_any (x y : Sm) (w : World) :
    Calls Tryd.prog 74 #[.agg (u8s x.l), .agg (u8s y.l)] w fun e w' => e = .returned (.agg (u8s (x.xor y).l)) ∧ Below w.heap.size w w' := Xor_l x.l y.l x.len y.len w
end Go.Proofs.YtgmeagkolahkoaaDoor

/- Cells by types: build, fields, ==; the functions of layer 13, the program's and the document's. -/
namespace Go.Proofs.YtgmeagkolahkoaaDoor
open Go.RowKit

/-- A cell's 65 places. -/
def cellA (n : Int) (K C : Array Value) : Array Value := #[.int .i64 n] ++ K ++ C
theorem fold_splice (off : Nat) : ∀ (l : List Value) (j : Nat) (cells : Array Value), (l.zipIdx j).foldl (fun cs (p : Value × Nat) => cs.setIfInBounds (off + p.2) p.1) cells = splice cells (off + j) l
  | [], _, _ => rfl
  | v :: l, j, cells => by
    rw [List.zipIdx_cons, List.foldl_cons, fold_splice off l (j + 1)]
    rfl
theorem fold_arr (off : Nat) (V cells : Array Value) : V.zipIdx.foldl (fun cs (p : Value × Nat) => cs.setIfInBounds (off + p.2) p.1) cells = splice cells off V.toList := by
  rw [← Array.foldl_toList, Array.toList_zipIdx]
  exact fold_splice off V.toList 0 cells
theorem cell_splice {n : Int} {K C Z : Array Value} (hZ : Z.size = 65) (hK : K.size = 32) (hC : C.size = 32) : splice (splice (splice Z 0 [.int .i64 n]) 1 K.toList) 33 C.toList = cellA n K C := by
  apply Array.ext_getElem?
  intro j
  rw [splice_get _ _ _ _ (by rw [splice_size, splice_size]; simp [hZ, hC]), splice_get _ _ _ _ (by rw [splice_size]; simp [hZ, hK]), splice_get _ _ _ _ (by simp [hZ])]
  simp only [Array.length_toList, hK, hC, List.length_singleton]
  unfold cellA
  by_cases h3 : 33 ≤ j
  · rw [Array.getElem?_append_right (by simp [hK]; omega)]
    have e : j - (#[Value.int .i64 n] ++ K).size = j - 33 := by simp [hK]
    rw [e]
    by_cases h4 : j < 65
    · rw [if_pos (by omega)]; simp
    · rw [if_neg (by omega), if_neg (by omega), if_neg (by omega), Array.getElem?_eq_none (by omega), Array.getElem?_eq_none (by omega)]
  · rw [if_neg (by omega), Array.getElem?_append_left (by simp [hK]; omega)]
    by_cases h2 : 1 ≤ j
    · rw [if_pos (by omega), Array.getElem?_append_right (by simp; omega)]; simp
    · obtain rfl : j = 0 := by omega
      rw [if_neg (by omega), if_pos (by omega)]
      rw [Array.getElem?_append_left (by simp)]
      simp
theorem fill_step {place : Nat → Option (Nat × Nat)} {cells : Array Value} {i off size : Nat} {v : Value} {rest : List (Nat × Value)} (hp : place i = some (off, size)) (hs : v.cells.size = size) (hb : off + size ≤ cells.size) :
    Instr.fill place cells ((i, v) :: rest) = Instr.fill place (splice cells off v.cells.toList) rest := by
  rw [Instr.fill]
  simp only [hp]
  rw [if_neg (by rw [hs]; simp; omega), fold_arr]
theorem fill_cell {Z K C : Array Value} {n : Int} (hZ : Z.size = 65) (hK : K.size = 32) (hC : C.size = 32) :
    Instr.fill (fun x => ([(0, 1), (1, 32), (33, 32)] : List (Nat × Nat))[x]?) Z [(0, .int .i64 n), (1, .agg K), (2, .agg C)] = some (cellA n K C) := by
  rw [fill_step (v := .int .i64 n) (off := 0) (size := 1) rfl rfl (by rw [hZ]; omega), fill_step (v := .agg K) (off := 1) (size := 32) rfl hK (by rw [splice_size, hZ]; omega), fill_step (v := .agg C) (off := 33) (size := 32) rfl hC (by rw [splice_size, splice_size, hZ]; omega)]
  rw [show (Value.int .i64 n).cells.toList = [.int .i64 n] from rfl, show (Value.agg K).cells = K from rfl, show (Value.agg C).cells = C from rfl, cell_splice hZ hK hC]
  rfl
def zero65 : Array Value := cellA 0 (u8s (List.replicate 32 0)) (u8s (List.replicate 32 0))
theorem zero65_size : zero65.size = 65 := rfl
theorem extract_key {n : Int} {K C : Array Value} (hK : K.size = 32) (hC : C.size = 32) : (cellA n K C).extract 1 (1 + 32) = K := by
  apply Array.ext_getElem?
  intro j
  unfold cellA
  by_cases h : j < 32
  · rw [Array.getElem?_extract, if_pos (by simp [hK, hC]; omega), Array.getElem?_append_left (by simp [hK]; omega), Array.getElem?_append_right (by simp)]
    simp
  · rw [Array.getElem?_eq_none (by simp [hK]; omega), Array.getElem?_eq_none (by omega)]
theorem extract_check {n : Int} {K C : Array Value} (hK : K.size = 32) (hC : C.size = 32) : (cellA n K C).extract 33 (33 + 32) = C := by
  apply Array.ext_getElem?
  intro j
  unfold cellA
  by_cases h : j < 32
  · rw [Array.getElem?_extract, if_pos (by simp [hK, hC]; try omega), Array.getElem?_append_right (by simp [hK]; try omega)]
    congr 1
    simp [hK]
    try omega
  · rw [Array.getElem?_eq_none (by simp [hK, hC]; try omega), Array.getElem?_eq_none (by omega)]
theorem cellA_get0 {n : Int} {K C : Array Value} : (cellA n K C)[0]? = some (.int .i64 n) := by
  unfold cellA; rw [Array.getElem?_append_left (by simp; omega), Array.getElem?_append_left (by simp)]; rfl
theorem cl_cellA (c : Cl) : c.a = cellA c.n (u8s c.key.l) (u8s c.check.l) := by simp [Cl.a, Cl.enc, cellA, u8s, Sm.enc]
theorem Sm.size (s : Sm) : (u8s s.l).size = 32 := by rw [u8s_size, s.len]
theorem Cl.eq_iff (c d : Cl) : (c.n = d.n ∧ c.key = d.key ∧ c.check = d.check) ↔ c = d := ⟨fun h => Cl.ext h.1 h.2.1 h.2.2, fun h => by subst h; exact ⟨rfl, rfl, rfl⟩⟩
theorem zero65_is : zero65 = Cl.zero.a := by rw [cl_cellA]; rfl
theorem info34 : (Tryd.prog.info? 27).map (·.size) = some 65 := by kernel_rfl
theorem zero34 (w : World) : (zeroValue 27).run Tryd.prog w = .ok (.agg zero65) w := by kernel_rfl
theorem build_cell34 (n : Int) (K C : Array Value) (hK : K.size = 32) (hC : C.size = 32) (w : World) : (Instr.build 27 #[(0, .int .i64 n), (1, .agg K), (2, .agg C)]).run Tryd.prog w = .ok (.agg (cellA n K C)) w := by
  have hu := run_underlying Tryd.underlying27 w
  have h1 := Tryd.sizeOf2 w
  have hf : Instr.fill (fun x => ([(0, 1), (1, 32), (33, 32)] : List (Nat × Nat))[x]?) (Value.agg zero65).cells [(0, .int .i64 n), (1, .agg K), (2, .agg C)] = some (cellA n K C) := fill_cell zero65_size hK hC
  simp only [Instr.build, Sem.run_bind, zero34 w, Result.andThen_ok, hu]
  simp [h1, hf]
theorem build_zero34 (w : World) : (Instr.build 27 #[]).run Tryd.prog w = .ok (.agg zero65) w := by
  have hu := run_underlying Tryd.underlying27 w
  have h1 := Tryd.sizeOf2 w
  simp only [Instr.build, Sem.run_bind, zero34 w, Result.andThen_ok, hu]
  simp [h1, Instr.fill]
  rfl
theorem fields34 : ∃ f0 f1 f2 : Field, (Tryd.prog.fieldsOf 27).toList = [f0, f1, f2] ∧ f0.name ≠ "_" ∧ f1.name ≠ "_" ∧ f2.name ≠ "_" ∧ f0.type = 2 ∧ f0.offset = 0 ∧ f1.type = 25 ∧ f1.offset = 1 ∧ f2.type = 25 ∧ f2.offset = 33 := by
  have hu := Tryd.underlying27
  have h : ∀ fs, Tryd.prog.underlying 27 = some (.struct fs) → Tryd.prog.fieldsOf 27 = fs := fun fs h => by unfold Program.fieldsOf; rw [h]
  have h2 := h _ hu
  rw [h2]
  exact ⟨_, _, _, rfl, by decide, by decide, by decide, rfl, rfl, rfl, rfl, rfl, rfl⟩
theorem holds34 : Tryd.prog.underlying 27 = some (.struct (Tryd.prog.fieldsOf 27)) ∧ Tryd.prog.stoodInHeld 27 = false := ⟨by kernel_rfl, by kernel_rfl⟩
theorem part_key34 (c : Cl) (w : World) : (part 25 c.a 1).run Tryd.prog w = .ok (.agg (u8s c.key.l)) w := by
  have a1 : (isAgg 25).run Tryd.prog w = .ok true w := by kernel_rfl
  unfold part
  rw [Sem.run_bind, a1]
  simp only [Result.andThen_ok, if_true, Sem.run_bind, Tryd.sizeOf25 w, Sem.run_pure]
  rw [show c.a.extract 1 (1 + 32) = u8s c.key.l by rw [cl_cellA]; exact extract_key c.key.size c.check.size]
theorem part_check34 (c : Cl) (w : World) : (part 25 c.a 33).run Tryd.prog w = .ok (.agg (u8s c.check.l)) w := by
  have a1 : (isAgg 25).run Tryd.prog w = .ok true w := by kernel_rfl
  unfold part
  rw [Sem.run_bind, a1]
  simp only [Result.andThen_ok, if_true, Sem.run_bind, Tryd.sizeOf25 w, Sem.run_pure]
  rw [show c.a.extract 33 (33 + 32) = u8s c.check.l by rw [cl_cellA]; exact extract_check c.key.size c.check.size]
theorem part_n34 (c : Cl) (w : World) : (part 2 c.a 0).run Tryd.prog w = .ok (.int .i64 c.n) w := by
  unfold part
  rw [Sem.run_bind, Tryd.isAgg2 w]
  simp only [Result.andThen_ok]
  rw [show c.a[0]? = some (.int .i64 c.n) by rw [cl_cellA]; exact cellA_get0]
  rfl
theorem sums34 (d : Nat) (x y : Sm) (w : World) : (Op.equalIn (d + 2) 25 (.agg (u8s x.l)) (.agg (u8s y.l))).run Tryd.prog w = .ok (decide (x.l = y.l)) w := by
  obtain ⟨i, hi⟩ := info_u8
  exact run_equalIn_bytes (P := Tryd.prog) d 25 _ 32 i Tryd.underlying25 hi (by kernel_rfl) Tryd.underlying5 Tryd.isAgg5 x.l y.l x.len y.len w
theorem eql_cell34 (d : Nat) (b c : Cl) (w : World) : (Op.equalIn (d + 3) 27 (.agg b.a) (.agg c.a)).run Tryd.prog w = .ok (decide (b = c)) w := by
  obtain ⟨f0, f1, f2, hf, n0, n1, n2, t0, o0, t1, o1, t2, o2⟩ := fields34
  have pk := part_key34
  have pc := part_check34
  have pn := part_n34
  have hq := fun x y => sums34 d x y w
  have hi := run_equalIn_int w (d + 1) 2 .i64 .i64 b.n c.n Tryd.underlying2
  rw [run_equalIn_struct w (d + 2) _ _ _ holds34.1 holds34.2, hf]
  simp only [Op.eqFields, n0, n1, n2, ne_eq, not_false_eq_true, if_true, Sem.run_bind, t0, o0, t1, o1, t2, o2, pn, Result.andThen_ok, hi]
  by_cases e0 : b.n = c.n
  · by_cases e1 : b.key = c.key
    · by_cases e2 : b.check = c.check
      · have h := (Cl.eq_iff b c).1 ⟨e0, e1, e2⟩
        subst h
        simp [pk, pc, hq]
      · have hne : ¬ b = c := fun h => e2 (by rw [h])
        have e3 : ¬ b.check.l = c.check.l := fun h => e2 (Sm.ext_l h)
        simp [e0, e1, e3, hne, pk, pc, hq]
    · have hne : ¬ b = c := fun h => e1 (by rw [h])
      have e3 : ¬ b.key.l = c.key.l := fun h => e1 (Sm.ext_l h)
      simp [e0, e3, hne, pk, hq]
  · have hne : ¬ b = c := fun h => e0 (by rw [h])
    simp [e0, hne]
theorem eql_cl34 (c d : Cl) (w : World) : (binOp .eql 27 (.agg c.a) (.agg d.a)).run Tryd.prog w = .ok (.bool (decide (c = d))) w := by rw [run_eql_struct, eql_cell34 9997]; rfl
theorem infoC34 : (Tryd.prog.info? 27).map (fun i => (i.zero, i.size, i.bytes)) = some (some (.agg Cl.zero.a), 65, 72) := by kernel_rfl
theorem guard34 : Tryd.prog.eqGuardType Tryd.prog.depth 27 = false := by kernel_rfl
theorem buildC34 (n : Int) (K C : Sm) (w : World) : (Instr.build 27 #[(0, .int .i64 n), (1, .agg (u8s K.l)), (2, .agg (u8s C.l))]).run Tryd.prog w = .ok (.agg (Cl.mk n K C).a) w := by rw [cl_cellA]; exact build_cell34 n _ _ K.size C.size w
theorem buildZ34 (w : World) : (Instr.build 27 #[]).run Tryd.prog w = .ok (.agg Cl.zero.a) w := by rw [← zero65_is]; exact build_zero34 w
section
variable {P : Program} {w0 : World} {Γ : Ctx} {o : Oper}
/-- The address of a field. -/
theorem run_fieldAt {t ft : TypeId} {fs : Array Field} {i off sz : Nat} (hu : P.underlying t = some (.struct fs)) (hf : (fs[i]?).map (fun f => (f.type, f.offset)) = some (ft, off)) (hz : (P.info? ft).map (·.size) = some (sz + 1)) (g o2 : Nat) (w : World) : (Instr.fieldAt t (.pointer (some ⟨g, o2, none⟩)) i).run P w = .ok (.pointer (some ⟨g, o2 + off, none⟩)) w := by
  obtain ⟨f, h1, h2⟩ := Option.map_eq_some_iff.1 hf
  simp only [Prod.mk.injEq] at h2
  obtain ⟨rfl, rfl⟩ := h2
  obtain ⟨inf, hinf, hsz⟩ := Option.map_eq_some_iff.1 hz
  simp [Instr.fieldAt, fieldPlace, run_underlying hu, h1, Instr.sureAddr, sizeOf, typeInfo, hinf, hsz, Addr.add_lit]
theorem cFieldE {t e ft : TypeId} {fs : Array Field} {i off sz : Nat} {x : Operand} {xs : List Value} (ho : o.op = .fieldAddr t x i) (hx : Has w0 Γ x (Ty.at_ e xs)) (hu : P.underlying t = some (.struct fs)) (hf : (fs[i]?).map (fun f => (f.type, f.offset)) = some (ft, off)) (hz : (P.info? ft).map (·.size) = some (sz + 1)) : OpOk P w0 Γ o (Ty.at_ e (xs.drop off)) :=
  .val fun a w hb hs => by
    obtain ⟨v, h1, g, o2, cs, fr, rfl, h2, h3⟩ := hx.see hs (by simp [ho, Op.operands]) hb
    refine ⟨_, ⟨g, o2 + off, cs, fr, rfl, h2, fun j u hu => ?_⟩, ?_⟩
    · rw [List.getElem?_drop] at hu
      rw [Nat.add_assoc]
      exact h3 _ u hu
    · unfold execOp
      simp [ho, h1, run_fieldAt hu hf hz]
theorem cBuild3 {t : TypeId} {x y z : Operand} {v u q r : Value} (ho : o.op = .build t #[(0, x), (1, y), (2, z)]) (hx : OpT Γ x (Ty.ex v)) (hy : OpT Γ y (Ty.ex u)) (hz : OpT Γ z (Ty.ex q)) (hr : ∀ w : World, (Instr.build t #[(0, v), (1, u), (2, q)]).run P w = .ok r w) : OpOk P w0 Γ o (Ty.ex r) :=
  cBuildP (vs := #[(0, v), (1, u), (2, q)]) ho (fun a w hs => by
    obtain ⟨v', h1, h2⟩ := hs x _ (by simp [ho, Op.operands]) hx
    obtain ⟨u', h3, h4⟩ := hs y _ (by simp [ho, Op.operands]) hy
    obtain ⟨q', h5, h6⟩ := hs z _ (by simp [ho, Op.operands]) hz
    have h2 : v' = v := h2
    have h4 : u' = u := h4
    have h6 : q' = q := h6
    simp [h1, h2, h3, h4, h5, h6]) hr
theorem cBuildE {t : TypeId} {r : Value} (ho : o.op = .build t #[]) (hr : ∀ w : World, (Instr.build t #[]).run P w = .ok r w) : OpOk P w0 Γ o (Ty.ex r) :=
  cBuildP (vs := #[]) ho (fun a w hs => by simp) hr
end
theorem Cl.d33 (c : Cl) : c.enc.drop 33 = c.check.enc := by
  have h : c.key.enc.length = 32 := by simp [Sm.enc, c.key.len]
  unfold Cl.enc
  rw [List.drop_succ_cons, List.drop_append_of_le_length (by omega), List.drop_of_length_le (by omega)]
  rfl
theorem at_pre {e : TypeId} {xs ys : List Value} : ∀ w v, (Ty.at_ e (xs ++ ys)).p w v → (Ty.at_ e xs).p w v := fun w v ⟨g, off, cs, fr, h1, h2, h3⟩ => ⟨g, off, cs, fr, h1, h2, fun j u hu => h3 j u (by rw [List.getElem?_append_left (List.getElem?_eq_some_iff.1 hu).1]; exact hu)⟩
theorem size_i64 : (Tryd.prog.info? 2).map (·.size) = some 1 := by kernel_rfl
theorem cBoxCl {P : Program} {w0 : World} {Γ : Ctx} {o : Oper} {t : TypeId} {x : Operand} {c : Cl} (ho : o.op = .box t x) (hx : OpT Γ x (Ty.ex (.agg c.a))) : OpOk P w0 Γ o (Ty.at_ t c.enc) := cBox ho hx
section
variable {w0 : World} {Γ : Ctx} {o : Oper} {x : Operand} {e : TypeId} {c : Cl}
theorem cFldN34 (ho : o.op = .fieldAddr 27 x 0) (hx : Has w0 Γ x (Ty.at_ e c.enc)) : OpOk Tryd.prog w0 Γ o (Ty.at_ e [.int .i64 c.n]) :=
  (cFieldE (P := Tryd.prog) ho hx Tryd.underlying27 rfl size_i64).conv fun w v h => at_pre (xs := [.int .i64 c.n]) (ys := c.key.enc ++ c.check.enc) w v h
theorem cFldK34 (ho : o.op = .fieldAddr 27 x 1) (hx : Has w0 Γ x (Ty.at_ e c.enc)) : OpOk Tryd.prog w0 Γ o (Ty.at_ e c.key.enc) :=
  (cFieldE (P := Tryd.prog) ho hx Tryd.underlying27 rfl sizeS).conv fun w v h => at_pre (xs := c.key.enc) (ys := c.check.enc) w v h
theorem cFldC34 (ho : o.op = .fieldAddr 27 x 2) (hx : Has w0 Γ x (Ty.at_ e c.enc)) : OpOk Tryd.prog w0 Γ o (Ty.at_ e c.check.enc) :=
  (cFieldE (P := Tryd.prog) ho hx Tryd.underlying27 rfl sizeS).conv fun _ _ h => c.d33 ▸ h
theorem cLoadCl34 (ho : o.op = .load 27 x) (hx : Has w0 Γ x (Ty.at_ e c.enc)) : OpOk Tryd.prog w0 Γ o (Ty.ex (.agg c.a)) :=
  cLoadAll (cs := c.a) ho hx Tryd.underlying27 rfl (by rw [c.size]; exact info34)
theorem cLoadN (ho : o.op = .load 2 x) (hx : Has w0 Γ x (Ty.at_ e [.int .i64 c.n])) : OpOk Tryd.prog w0 Γ o (Ty.ex (.int .i64 c.n)) := cLoad1 ho hx (pts_at _ _) Tryd.underlying2 rfl
end
theorem wrap_is (a : Int) : IntKind.i64.wrap a = wrap64 a := by
  exact IntWalk.i64_left a
theorem xor_ty (x y : Sm) : Fn2 Tryd.prog 74 (Ty.ex (.agg (u8s x.l))) (Ty.ex (.agg (u8s y.l))) (Ty.ex (.agg (u8s (x.xor y).l))) :=
  ⟨fun args w => by kernel_rfl, fun w v u hv hu => by
    have hv : v = .agg (u8s x.l) := hv
    have hu : u = .agg (u8s y.l) := hu
    subst hv hu
    exact Ret.of (Xor_any x y w)⟩
end Go.Proofs.YtgmeagkolahkoaaDoor

/- Regions by types: memory of the call's own that an operation takes over (append in place; constants that are frozen): each such slot has blocks of its own, told apart from all others. -/
namespace Go.Proofs.YtgmeagkolahkoaaDoor
open Go.RowKit

/-- A type with the blocks that are its own. -/
structure OTy where
  τ : Ty
  q : World → Value → List Nat → Prop
  to : ∀ {w : World} {v : Value} {S : List Nat}, q w v S → τ.p w v
  st : ∀ {w w' : World} {v : Value} {S T : List Nat}, q w v S → Keeps T w w' → (∀ b ∈ S, b ∉ T) → q w' v S
  lt : ∀ {w : World} {v : Value} {S : List Nat}, q w v S → ∀ b ∈ S, b < w.heap.size
/-- Which slot an operation takes over. -/
def takes : List (Nat × Nat) → Nat → Option Nat
  | [], _ => none
  | p :: T, i => bif Nat.beq p.1 i then some p.2 else takes T i
section
variable {P : Program} {ops : Array Oper} {w0 : World} {Γ : Ctx} {o : Oper} {V U : OTy}
end

section
variable {P : Program} {w0 : World} {Γ : Ctx} {N n : Nat} {l : List Oper} {Vs : List OTy} {T : List (Nat × Nat)} {a0 : Act} {ops : Array Oper}
end

section
variable {P : Program} {w0 : World} {Γ : Ctx} {N : Nat} {Vs : List OTy} {a0 : Act}
end
/-! ### Lines -/
section
variable {P : Program} {w0 : World} {Γ : Ctx} {o : Oper}
end
/-- What hangs on blocks of another type. -/
theorem Ty.far (τ : Ty) {w w' : World} {v : Value} {g : Nat} {t : TypeId} {cs : Array Value} (h : τ.p w v) (k : Keeps [g] w w') (hb : Blk w g t cs) (he : τ.el t = false) : τ.p w' v := τ.st h k fun b hb' _ => by
  simp only [List.mem_singleton] at hb'
  subst hb'
  exact ⟨cs, t, (0, 0), hb, he⟩
/-- A slot's value under the letter that it is known by. -/
theorem Fr.letter {N : Nat} {Γ : Ctx} {a : Act} {w : World} (h : Fr N Γ a w) {s : Nat} {v : Value} (hs : a.tmps[s]? = some v) : Fr N ((s, Ty.ex v) :: Γ) a w := by
  refine ⟨h.size, h.defers, fun s' τ' hs' => ?_⟩
  by_cases hss : s = s'
  · subst hss
    rw [look_same] at hs'
    injection hs' with hs'
    subst hs'
    exact ⟨v, hs, rfl⟩
  · rw [look_ne _ _ hss] at hs'
    exact h.val s' τ' hs'
theorem SlP.form {w : World} {e : TypeId} {v : Value} {n : Nat} {xs : List Value} (h : SlP w e v n xs) : ∃ A c, v = .slice A n c ∧ n ≤ c ∧ c ≤ maxLen ∧ (A = none → c = 0) := by
  obtain ⟨A, c, h1, h2, h3, h4, _⟩ := h
  exact ⟨A, c, h1, h2, h3, fun e => (h4 e).2⟩
/-- The address of an element of a slice that is a letter. -/
theorem SlP.elem {w : World} {e : TypeId} {A : Option Addr} {n c : Nat} {xs : List Value} (h : SlP w e (.slice A n c) n xs) {k : Nat} (hk : k < xs.length) : ∃ g off, A = some ⟨g, off, none⟩ ∧ ∀ m, (Ty.at_ e (xs.drop m)).p w (.pointer (some ⟨g, off + m, none⟩)) := by
  obtain ⟨A', c', h1, h2, h3, h4, h5⟩ := h
  injection h1 with h1 _ h6
  subst h1 h6
  obtain ⟨g, off, cs, fr, rfl, h7, h8⟩ := h5 k _ (List.getElem?_eq_getElem hk)
  refine ⟨g, off, rfl, fun m => ⟨g, off + m, cs, fr, rfl, h7, fun j u hu => ?_⟩⟩
  rw [List.getElem?_drop] at hu
  obtain ⟨g', off', cs', fr', e1, h9, h10⟩ := h5 _ u hu
  injection e1 with e1
  injection e1 with e1 e2
  subst e1 e2
  rw [h7] at h9
  injection h9 with h9
  injection h9 with h9
  subst h9
  rw [Nat.add_assoc]
  exact h10
end Go.Proofs.YtgmeagkolahkoaaDoor

/- Regions by types: one store over a variable of the call's own that may come at whatever place of the order. -/
namespace Go.Proofs.YtgmeagkolahkoaaDoor
open Go.RowKit

theorem size_setC (b : Nat) : ∀ (vs : List Value) (o : Nat) (w : World), (w.setCells b o vs).heap.size = w.heap.size
  | [], _, _ => rfl
  | v :: vs, o, w => by
    rw [World.setCells, size_setC b vs]
    simp
/-- Lines that hold whether the store has been or not; the store itself, the p-th. -/
inductive LineW (P : Program) (ops : Array Oper) (w0 w1 : World) (t : TypeId) (g : Nat) (v : Value) (p : Nat) : Nat → Ctx → List Oper → List Ty → Prop
  | nil {i : Nat} {Γ : Ctx} : LineW P ops w0 w1 t g v p i Γ [] []
  | cons {i : Nat} {Γ : Ctx} {d : Nat} {o : Oper} {V : Ty} {os : List Oper} {Vs : List Ty} (hi : Nat.beq i p = false) (hd : o.dst = some d) (h0 : Fact P ops w0 Γ o V) (h1 : Fact P ops w1 Γ o V) (he : V.el t = false) (tl : LineW P ops w0 w1 t g v p (i + 1) ((d, V) :: Γ) os Vs) : LineW P ops w0 w1 t g v p i Γ (o :: os) (V :: Vs)
  | store {i : Nat} {Γ : Ctx} {o : Oper} {os : List Oper} {Vs : List Ty} {ty : TypeId} {x s : Nat} (hi : Nat.beq i p = true) (hd : o.dst = none) (hg : o.guard = none) (ho : o.op = .store ty (.tmp x) (.tmp s)) (hx : look Γ x = some (Ty.ex (.pointer (some ⟨g, 0, none⟩)))) (hs : look Γ s = some (Ty.ex v)) (hz : (P.info? ty).map (·.size) = some v.cells.size) (tl : LineW P ops w0 w1 t g v p (i + 1) Γ os Vs) : LineW P ops w0 w1 t g v p i Γ (o :: os) (Ty.any :: Vs)
def extW : Ctx → List Oper → List Ty → Ctx
  | Γ, o :: os, V :: Vs => match o.dst with | some d => extW ((d, V) :: Γ) os Vs | none => extW Γ os Vs
  | Γ, _, _ => Γ
def regW (ops : Array Oper) (N n p : Nat) : Bool := decide (p < n) && (List.range n).all fun i => match ops[i]? with
  | none => false
  | some o => if i == p then (o.after.all fun e => !Region.binds .any e || decide (e.on < i)) && o.dst.isNone &&
      (List.range n).all fun j => match ops[j]? with
        | none => false
        | some oj => (match oj.dst with | none => true | some d => !(o.looksAt ops).contains d || (if decide (j < i) then Region.waitsFor .any ops i j else Region.waitsFor .any ops j i))
    else okAt ops N n i o
section
variable {ops : Array Oper} {N n p : Nat}
theorem regW_at {i : Nat} (h : regW ops N n p = true) (hi : i < n) (hp : i ≠ p) : ∃ o d, ops[i]? = some o ∧ o.dst = some d ∧ d < N ∧ (∀ e ∈ o.after, Region.binds .any e = true → e.on < i) ∧
    ∀ (j : Nat) (oj : Oper), j < n → ops[j]? = some oj → j ≠ i → oj.dst ≠ some d ∧ (d ∈ oj.looksAt ops → (i < j → Region.waitsFor .any ops j i = true) ∧ (j < i → Region.waitsFor .any ops i j = true)) := by
  unfold regW at h
  rw [Bool.and_eq_true] at h
  have h1 := List.all_eq_true.1 h.2 i (List.mem_range.2 hi)
  cases ho : ops[i]? with
  | none => rw [ho] at h1; cases h1
  | some o =>
    rw [ho] at h1
    have hip : (i == p) = false := by simpa using hp
    simp only [hip, Bool.false_eq_true, if_false] at h1
    simp only [okAt, Bool.and_eq_true] at h1
    obtain ⟨h2, h3⟩ := h1
    cases hd : o.dst with
    | none => rw [hd] at h3; cases h3
    | some d =>
      rw [hd] at h3
      simp only [Bool.and_eq_true, decide_eq_true_eq] at h3
      refine ⟨o, d, rfl, hd, h3.1, fun e he hb => ?_, fun j oj hj hoj hne => ?_⟩
      · simp only [Array.all_eq_true_iff_forall_mem] at h2
        have := h2 e he
        simp [hb] at this
        exact this
      · have h4 := List.all_eq_true.1 h3.2 j (List.mem_range.2 hj)
        rw [hoj] at h4
        simp only [Bool.or_eq_true, Bool.and_eq_true, beq_iff_eq, bne_iff_ne, ne_eq, Bool.not_eq_true', hne, false_or] at h4
        refine ⟨h4.1, fun hm => ?_⟩
        have h5 := h4.2
        have h6 : ((oj.looksAt ops).contains d) = true := by simpa using hm
        rw [h6] at h5
        simp only [Bool.true_eq_false, false_or] at h5
        refine ⟨fun hlt => ?_, fun hlt => ?_⟩
        · rwa [if_pos (by simpa using hlt)] at h5
        · rwa [if_neg (by simp; omega)] at h5
theorem regW_p (h : regW ops N n p = true) : p < n ∧ ∃ o, ops[p]? = some o ∧ o.dst = none ∧ (∀ e ∈ o.after, Region.binds .any e = true → e.on < p) := by
  unfold regW at h
  rw [Bool.and_eq_true, decide_eq_true_eq] at h
  refine ⟨h.1, ?_⟩
  have h1 := List.all_eq_true.1 h.2 p (List.mem_range.2 h.1)
  cases ho : ops[p]? with
  | none => rw [ho] at h1; cases h1
  | some o =>
    rw [ho] at h1
    simp only [beq_self_eq_true, if_true, Bool.and_eq_true, Option.isNone_iff_eq_none] at h1
    refine ⟨o, rfl, h1.1.2, fun e he hb => ?_⟩
    have h2 := h1.1.1
    simp only [Array.all_eq_true_iff_forall_mem] at h2
    have := h2 e he
    simp [hb] at this
    exact this
theorem regW_back (h : regW ops N n p = true) : ∀ i o, i < n → ops[i]? = some o → ∀ e ∈ o.after, Region.binds .any e = true → e.on < i := fun i o hi ho e he hb => by
  by_cases hip : i = p
  · subst hip
    obtain ⟨_, o', ho', _, h2⟩ := regW_p h
    obtain rfl : o = o' := Option.some.inj (ho.symm.trans ho')
    exact h2 e he hb
  · obtain ⟨o', d, ho', _, _, h2, _⟩ := regW_at h hi hip
    obtain rfl : o = o' := Option.some.inj (ho.symm.trans ho')
    exact h2 e he hb
end
section
variable {P : Program} {ops : Array Oper} {w0 w1 : World} {t : TypeId} {g : Nat} {v : Value} {p : Nat} {Γ : Ctx}
/-- What the lines say of the i-th. -/
theorem LineW.at_ {m : Nat} {l : List Oper} {Vs : List Ty} (h : LineW P ops w0 w1 t g v p m Γ l Vs) : ∀ (i : Nat) (o : Oper), l[i]? = some o → ∃ V Γi, Vs[i]? = some V ∧
    (m + i ≠ p ∧ o.dst ≠ none ∧ V.el t = false ∧ Fact P ops w0 Γi o V ∧ Fact P ops w1 Γi o V ∨ m + i = p ∧ o.dst = none ∧ o.guard = none ∧ ∃ ty x s, o.op = .store ty (.tmp x) (.tmp s) ∧ look Γi x = some (Ty.ex (.pointer (some ⟨g, 0, none⟩))) ∧ look Γi s = some (Ty.ex v) ∧ (P.info? ty).map (·.size) = some v.cells.size) ∧
    ∀ (s : Nat) (τ : Ty), look Γi s = some τ → (∃ (j : Nat) (oj : Oper), j < i ∧ l[j]? = some oj ∧ oj.dst = some s ∧ Vs[j]? = some τ) ∨ ((∀ (j : Nat) (oj : Oper), j < i → l[j]? = some oj → oj.dst ≠ some s) ∧ look Γ s = some τ) := by
  induction h with
  | nil => intro i o h; simp at h
  | @cons m Γ d o V os Vs hi hd h0 h1 he tl ih =>
    intro i o' ho'
    cases i with
    | zero =>
      simp only [List.getElem?_cons_zero, Option.some.injEq] at ho'
      subst ho'
      exact ⟨V, Γ, rfl, .inl ⟨by simpa using fun e => by rw [e] at hi; simp at hi, by rw [hd]; simp, he, h0, h1⟩, fun s τ hl => .inr ⟨fun j oj hj => absurd hj (Nat.not_lt_zero _), hl⟩⟩
    | succ i =>
      simp only [List.getElem?_cons_succ] at ho'
      obtain ⟨V', Γi, k1, k2, k3⟩ := ih i o' ho'
      refine ⟨V', Γi, by simpa using k1, by rw [show m + (i + 1) = m + 1 + i by omega]; exact k2, fun s τ hl => ?_⟩
      rcases k3 s τ hl with ⟨j, oj, hj, hoj, hds, hVj⟩ | ⟨hno, hlk⟩
      · exact .inl ⟨j + 1, oj, by omega, by simpa using hoj, hds, by simpa using hVj⟩
      · by_cases hds : d = s
        · subst hds
          rw [look_same] at hlk
          injection hlk with hlk
          subst hlk
          exact .inl ⟨0, o, by omega, rfl, hd, rfl⟩
        · rw [look_ne _ _ hds] at hlk
          refine .inr ⟨fun j oj hj hoj => ?_, hlk⟩
          cases j with
          | zero =>
            simp only [List.getElem?_cons_zero, Option.some.injEq] at hoj
            subst hoj
            rw [hd]
            simpa using hds
          | succ j => exact hno j oj (by omega) (by simpa using hoj)
  | @store m Γ o os Vs ty x s hi hd hg ho hx hs hz tl ih =>
    intro i o' ho'
    cases i with
    | zero =>
      simp only [List.getElem?_cons_zero, Option.some.injEq] at ho'
      subst ho'
      exact ⟨Ty.any, Γ, rfl, .inr ⟨Nat.eq_of_beq_eq_true hi, hd, hg, ty, x, s, ho, hx, hs, hz⟩, fun s τ hl => .inr ⟨fun j oj hj => absurd hj (Nat.not_lt_zero _), hl⟩⟩
    | succ i =>
      simp only [List.getElem?_cons_succ] at ho'
      obtain ⟨V', Γi, k1, k2, k3⟩ := ih i o' ho'
      refine ⟨V', Γi, by simpa using k1, by rw [show m + (i + 1) = m + 1 + i by omega]; exact k2, fun s τ hl => ?_⟩
      rcases k3 s τ hl with ⟨j, oj, hj, hoj, hds, hVj⟩ | ⟨hno, hlk⟩
      · exact .inl ⟨j + 1, oj, by omega, by simpa using hoj, hds, by simpa using hVj⟩
      · refine .inr ⟨fun j oj hj hoj => ?_, hlk⟩
        cases j with
        | zero =>
          simp only [List.getElem?_cons_zero, Option.some.injEq] at hoj
          subst hoj
          rw [hd]
          simp
        | succ j => exact hno j oj (by omega) (by simpa using hoj)
theorem LineW.ext_look {m : Nat} {l : List Oper} {Vs : List Ty} (h : LineW P ops w0 w1 t g v p m Γ l Vs) : ∀ (s : Nat) (τ : Ty), look (extW Γ l Vs) s = some τ →
    (∃ (j : Nat) (oj : Oper), l[j]? = some oj ∧ oj.dst = some s ∧ Vs[j]? = some τ) ∨ ((∀ (j : Nat) (oj : Oper), l[j]? = some oj → oj.dst ≠ some s) ∧ look Γ s = some τ) := by
  induction h with
  | nil => intro s τ hl; exact .inr ⟨fun j oj h => by simp at h, hl⟩
  | @cons m Γ d o V os Vs hi hd h0 h1 he tl ih =>
    intro s τ hl
    have e : extW Γ (o :: os) (V :: Vs) = extW ((d, V) :: Γ) os Vs := by simp [extW, hd]
    rw [e] at hl
    rcases ih s τ hl with ⟨j, oj, hoj, hds, hVj⟩ | ⟨hno, hlk⟩
    · exact .inl ⟨j + 1, oj, by simpa using hoj, hds, by simpa using hVj⟩
    · by_cases hds : d = s
      · subst hds
        rw [look_same] at hlk
        injection hlk with hlk
        subst hlk
        exact .inl ⟨0, o, rfl, hd, rfl⟩
      · rw [look_ne _ _ hds] at hlk
        refine .inr ⟨fun j oj hoj => ?_, hlk⟩
        cases j with
        | zero =>
          simp only [List.getElem?_cons_zero, Option.some.injEq] at hoj
          subst hoj
          rw [hd]
          simpa using hds
        | succ j => exact hno j oj (by simpa using hoj)
  | @store m Γ o os Vs ty x s hi hd hg ho hx hs hz tl ih =>
    intro s' τ hl
    have e : extW Γ (o :: os) (Ty.any :: Vs) = extW Γ os Vs := by simp [extW, hd]
    rw [e] at hl
    rcases ih s' τ hl with ⟨j, oj, hoj, hds, hVj⟩ | ⟨hno, hlk⟩
    · exact .inl ⟨j + 1, oj, by simpa using hoj, hds, by simpa using hVj⟩
    · refine .inr ⟨fun j oj hoj => ?_, hlk⟩
      cases j with
      | zero =>
        simp only [List.getElem?_cons_zero, Option.some.injEq] at hoj
        subst hoj
        rw [hd]
        simp
      | succ j => exact hno j oj (by simpa using hoj)
end
/-- Of the operations that are listed. -/
structure TInvW (N n p : Nat) (l : List Oper) (Vs : List Ty) (a0 : Act) (w0 w1 : World) (listed : Array Bool) (a : Act) (w : World) : Prop where
  below : Below w0.heap.size (if listed.getD p false then w1 else w0) w
  defers : a.defers = []
  size : a.tmps.size = N
  out : ∀ s, (∀ (j : Nat) (oj : Oper), j < n → listed.getD j false = true → l[j]? = some oj → oj.dst ≠ some s) → a.tmps[s]? = a0.tmps[s]?
  vals : ∀ (j : Nat) (oj : Oper) (d : Nat) (V : Ty), j < n → listed.getD j false = true → l[j]? = some oj → oj.dst = some d → Vs[j]? = some V → ∃ v, a.tmps[d]? = some v ∧ V.p w v

section
variable {P : Program} {w0 w1 : World} {t : TypeId} {g : Nat} {v : Value} {Γ : Ctx} {N n p : Nat} {l : List Oper} {Vs : List Ty} {a0 : Act} {ops : Array Oper} {cs : Array Value}
theorem TInvW.start (hF : Fr N Γ a0 w0) {w : World} (hb : Below w0.heap.size w0 w) (m : Nat) : TInvW N n p l Vs a0 w0 w1 (Array.replicate m false) a0 w :=
  ⟨by rw [getD_replicate_false, if_neg (by simp)]; exact hb, hF.defers, hF.size, fun _ _ => rfl, fun j _ _ _ _ h => (by rw [getD_replicate_false] at h; cases h)⟩
/-- What holds of Γ's slots while the region is under way. -/
theorem TInvW.old (hF : Fr N Γ a0 w0) (hΓ : Γ.free t = true) (hblk : Blk w0 g t cs) (hw1 : w1 = w0.setCells g 0 v.cells.toList) {listed : Array Bool} {a : Act} {w : World} (hI : TInvW N n p l Vs a0 w0 w1 listed a w) {s : Nat} {τ : Ty} (hs : look Γ s = some τ) : ∃ u, a0.tmps[s]? = some u ∧ τ.p w u := by
  obtain ⟨u, h1, h2⟩ := hF.val s τ hs
  refine ⟨u, h1, ?_⟩
  have hk : Keeps [g] w0 w1 := by rw [hw1]; exact Keeps.setCells (.inl (by simp)) _ _ (Keeps.refl _ _)
  have hsz : w1.heap.size = w0.heap.size := by rw [hw1]; exact size_setC _ _ _ _
  have hbl := hI.below
  by_cases hd : listed.getD p false = true
  · rw [if_pos hd] at hbl
    exact τ.below (τ.far h2 hk hblk (Ctx.free_look hΓ hs)) (by rw [hsz]; exact hbl)
  · rw [if_neg hd] at hbl
    exact τ.below h2 hbl
theorem TInvW.step (hB : regW ops N n p = true) (hl : ∀ i, i < n → l[i]? = ops[i]?) (hL : LineW P ops w0 w1 t g v p 0 Γ l Vs) (hF : Fr N Γ a0 w0) (hΓ : Γ.free t = true) (hblk : Blk w0 g t cs) (hcs : v.cells.size = cs.size) (hone : v.cells.all (·.oneCell') = true) (hw1 : w1 = w0.setCells g 0 v.cells.toList) {listed : Array Bool} {a : Act} {w : World} (hI : TInvW N n p l Vs a0 w0 w1 listed a w)
    (hsz : listed.size = ops.size) (hcl : ∀ (j : Nat) (oj : Oper), ops[j]? = some oj → listed.getD j false = true → ∀ e ∈ oj.after, Region.binds .any e = true → listed.getD e.on false = true)
    {i : Nat} {o : Oper} (hi : i < n) (ho : ops[i]? = some o) (hun : listed.getD i false = false) (hdep : ∀ e ∈ o.after, Region.binds .any e = true → listed.getD e.on false = true) (K : Act → World → Prop) (Q : Exit → Act → World → Prop)
    (hK : ∀ a' w', TInvW N n p l Vs a0 w0 w1 (listed.setIfInBounds i true) a' w' → K a' w') :
    if Region.wanted o (yielded ops a.tmps) then o.wp P a w K Q else K (a.put o.dst undef) w := by
  have hli : l[i]? = some o := (hl i hi).trans ho
  obtain ⟨V, Γi, hV, hFa, hlk⟩ := hL.at_ i o hli
  rw [Nat.zero_add] at hFa
  have hk01 : Keeps [g] w0 w1 := by rw [hw1]; exact Keeps.setCells (.inl (by simp)) _ _ (Keeps.refl _ _)
  have hsz1 : w1.heap.size = w0.heap.size := by rw [hw1]; exact size_setC _ _ _ _
  have hblk1 : Blk w1 g t v.cells := by
    have h := hblk.setCells v.cells.toList 0
    rw [splice_all _ _ (by simpa using hcs)] at h
    rw [hw1]
    simpa using h
  have hilt : i < listed.size := by rw [hsz]; exact (Array.getElem?_eq_some_iff.1 ho).1
  have wf : ∀ {p q : Nat} {op : Oper}, ops[p]? = some op → Region.waitsFor .any ops p q = true → ∃ e ∈ op.after, Region.binds .any e = true ∧ e.on = q := fun {p q op} hp hw => by
    obtain ⟨oj, hoj, e, he, hb, hon⟩ := Region.waitsFor_spec hw
    obtain rfl : op = oj := Option.some.inj (hp.symm.trans hoj)
    exact ⟨e, he, hb, hon⟩
  have hsees : Sees ops Γi o a w := by
    intro s τ hs hls
    rcases hlk s τ hls with ⟨j, oj, hj, hoj, hds, hVj⟩ | ⟨hno, hl0⟩
    · have hjn : j < n := by omega
      have hoj' : ops[j]? = some oj := (hl j hjn).symm.trans hoj
      have hjp : j ≠ p := fun h => by
        subst h
        obtain ⟨_, o', ho', hn', _⟩ := regW_p hB
        obtain rfl : oj = o' := Option.some.inj (hoj'.symm.trans ho')
        rw [hn'] at hds; cases hds
      obtain ⟨oj2, dj, hoj2, hdj, _, _, hothj⟩ := regW_at hB hjn hjp
      obtain rfl : oj = oj2 := Option.some.inj (hoj'.symm.trans hoj2)
      obtain rfl : dj = s := Option.some.inj (hdj.symm.trans hds)
      have h1 := ((hothj i o hi ho (by omega)).2 hs).1 hj
      obtain ⟨e, he, hb, hon⟩ := wf ho h1
      have h2 := hdep e he hb
      rw [hon] at h2
      exact hI.vals j oj dj τ hjn h2 hoj hdj hVj
    · obtain ⟨u, hu1, hu2⟩ := hI.old hF hΓ hblk hw1 hl0
      refine ⟨u, ?_, hu2⟩
      rw [hI.out s (fun k ok hk hlk' hok hdk => ?_)]
      · exact hu1
      · have hok' : ops[k]? = some ok := (hl k hk).symm.trans hok
        have hki : k ≠ i := fun h => by subst h; rw [hun] at hlk'; cases hlk'
        have hkp : k ≠ p := fun h => by
          subst h
          obtain ⟨_, o', ho', hn', _⟩ := regW_p hB
          obtain rfl : ok = o' := Option.some.inj (hok'.symm.trans ho')
          rw [hn'] at hdk; cases hdk
        by_cases hlt : k < i
        · exact hno k ok hlt hok hdk
        · obtain ⟨ok2, dk, hok2, hdk2, _, _, hothk⟩ := regW_at hB hk hkp
          obtain rfl : ok = ok2 := Option.some.inj (hok'.symm.trans hok2)
          obtain rfl : dk = s := Option.some.inj (hdk2.symm.trans hdk)
          have h1 := ((hothk i o hi ho (Ne.symm hki)).2 hs).2 (by omega)
          obtain ⟨e, he, hb, hon⟩ := wf hok' h1
          have h2 := hcl k ok hok' hlk' e he hb
          rw [hon, hun] at h2
          cases h2
  rcases hFa with ⟨hip, hdn, hel, hF0, hF1⟩ | ⟨hip, hdn, hg, ty, x, s, hop, hx, hs, hz⟩
  · obtain ⟨o', d, ho', hd, hdN, _, hoth⟩ := regW_at hB hi hip
    obtain rfl : o = o' := Option.some.inj (ho.symm.trans ho')
    have hdne : ∀ (j : Nat) (oj : Oper) (dj : Nat), j < n → j ≠ i → l[j]? = some oj → oj.dst = some dj → d ≠ dj := fun j oj dj hj hne hoj hdj h => by
      subst h
      exact (hoth j oj hj ((hl j hj).symm.trans hoj) hne).1 hdj
    have hgp : (listed.setIfInBounds i true).getD p false = listed.getD p false := getD_set_ne false hip
    have fin : ∀ u w', V.p w' u → Below w.heap.size w w' → K (a.put o.dst u) w' := fun u w' hv hb => by
      refine hK _ _ ?_
      rw [hd]
      have hws : w0.heap.size ≤ w.heap.size := by
        have := hI.below.size
        split at this
        · omega
        · exact this
      refine ⟨by rw [hgp]; exact hI.below.trans (hb.mono hws), hI.defers, by simp only [Act.put]; simpa using hI.size, fun s hs => ?_, fun j oj dj Vj hj hlj hoj hdj hVj => ?_⟩
      · have hds : d ≠ s := fun h => hs i o hi (by simp [Array.getD, hilt]) hli (by rw [hd, h])
        simp only [Act.put]
        rw [Array.getElem?_setIfInBounds_ne hds]
        refine hI.out s (fun j oj hj hlj hoj => ?_)
        refine hs j oj hj ?_ hoj
        by_cases hij : i = j
        · subst hij; rw [hun] at hlj; cases hlj
        · rw [getD_set_ne false hij]; exact hlj
      · by_cases hij : i = j
        · subst hij
          obtain rfl : o = oj := Option.some.inj (hli.symm.trans hoj)
          obtain rfl : d = dj := Option.some.inj (hd.symm.trans hdj)
          obtain rfl : V = Vj := Option.some.inj (hV.symm.trans hVj)
          refine ⟨u, ?_, hv⟩
          simp only [Act.put]
          rw [Array.getElem?_setIfInBounds_self, if_pos (by rw [hI.size]; exact hdN)]
        · rw [getD_set_ne false hij] at hlj
          obtain ⟨u', h1, h2⟩ := hI.vals j oj dj Vj hj hlj hoj hdj hVj
          refine ⟨u', ?_, Vj.below h2 hb⟩
          simp only [Act.put]
          rw [Array.getElem?_setIfInBounds_ne (hdne j oj dj hj (Ne.symm hij) hoj hdj)]
          exact h1
    have hbl := hI.below
    by_cases hdone : listed.getD p false = true
    · rw [if_pos hdone, ← hsz1] at hbl
      exact hF1.at_work hbl hsees K Q (fun u w' h1 h2 _ => fin u w' h1 h2)
    · rw [if_neg hdone] at hbl
      exact hF0.at_work hbl hsees K Q (fun u w' h1 h2 _ => fin u w' h1 h2)
  · subst hip
    have hbl := hI.below
    rw [if_neg (by rw [hun]; simp)] at hbl
    have hgw : Blk w g t cs := hblk.below hbl
    obtain ⟨ux, hux, ex⟩ := hsees x _ (by unfold Oper.looksAt; exact List.mem_append_left _ (by rw [hop]; simp [Op.operands])) hx
    obtain ⟨us, hus, es⟩ := hsees s _ (by unfold Oper.looksAt; exact List.mem_append_left _ (by rw [hop]; simp [Op.operands])) hs
    have ex : ux = .pointer (some ⟨g, 0, none⟩) := ex
    have es : us = v := es
    subst ex es
    have h3 : Keeps [g] w (w.setCells g 0 us.cells.toList) := Keeps.setCells (.inl (by simp)) _ _ (Keeps.refl _ _)
    have hgw' : Blk (w.setCells g 0 us.cells.toList) g t us.cells := by
      have h := hgw.setCells us.cells.toList 0
      rw [splice_all _ _ (by simpa using hcs)] at h
      simpa using h
    rw [if_pos (by simp [Region.wanted, hg])]
    have ea : a.eval (.tmp x) = .pointer (some ⟨g, 0, none⟩) := by simp [Act.eval, Array.getD_eq_getD_getElem?, hux]
    have eb : a.eval (.tmp s) = us := by simp [Act.eval, Array.getD_eq_getD_getElem?, hus]
    unfold Oper.wp execOp
    simp only [hop, ea, eb, Instr.storeAt, Instr.sureAddr, Sem.run_bind, Sem.run_pure, Result.andThen_ok, storeVar_cells ty _ us, run_storeVar_mid w g 0 ty us.cells (hgw.there (by omega)) hz hone]
    show K (a.put o.dst undef) _
    rw [hdn]
    refine hK _ _ ⟨?_, hI.defers, hI.size, fun s' hs' => ?_, fun j oj dj Vj hj hlj hoj hdj hVj => ?_⟩
    · rw [if_pos (by simp [Array.getD, hilt])]
      refine ⟨h3.os.trans (hbl.os.trans hk01.os.symm), h3.tape.trans (hbl.tape.trans hk01.tape.symm), h3.output.trans (hbl.output.trans hk01.output.symm), by rw [hsz1]; exact Nat.le_trans hbl.size h3.size, fun k hk => ?_⟩
      by_cases hkg : k = g
      · subst hkg
        exact hgw'.trans hblk1.symm
      · rw [h3.block k (Nat.lt_of_lt_of_le hk hbl.size) (by simpa using hkg), hbl.block k hk, hk01.block k hk (by simpa using hkg)]
    · refine hI.out s' (fun j oj hj hlj hoj => hs' j oj hj ?_ hoj)
      by_cases hij : i = j
      · subst hij; rw [hun] at hlj; cases hlj
      · rw [getD_set_ne false hij]; exact hlj
    · have hij : i ≠ j := fun h => by
        subst h
        obtain rfl : o = oj := Option.some.inj (hli.symm.trans hoj)
        rw [hdn] at hdj; cases hdj
      rw [getD_set_ne false hij] at hlj
      obtain ⟨u', k1, k2⟩ := hI.vals j oj dj Vj hj hlj hoj hdj hVj
      refine ⟨u', k1, Vj.far k2 h3 hgw ?_⟩
      obtain ⟨Vj', _, hVj', hFj, _⟩ := hL.at_ j oj hoj
      obtain rfl : Vj = Vj' := Option.some.inj (hVj.symm.trans hVj')
      rcases hFj with ⟨_, _, h, _⟩ | ⟨_, h, _⟩
      · exact h
      · rw [h] at hdj; cases hdj
theorem TInvW.all (hB : regW ops N n p = true) (hL : LineW P ops w0 w1 t g v p 0 Γ l Vs) (hn : n = l.length) (hF : Fr N Γ a0 w0) (hΓ : Γ.free t = true) (hblk : Blk w0 g t cs) (hw1 : w1 = w0.setCells g 0 v.cells.toList) {listed : Array Bool} {a : Act} {w : World} (hI : TInvW N n p l Vs a0 w0 w1 listed a w) (hall : ∀ i, i < n → listed.getD i false = true) :
    Fr N (extW Γ l Vs) a w ∧ Below w0.heap.size w1 w := by
  have lt : ∀ (j : Nat) (oj : Oper), l[j]? = some oj → j < n := fun j oj h => by rw [hn]; exact (List.getElem?_eq_some_iff.1 h).1
  have hp := hall p (regW_p hB).1
  have hbl := hI.below
  rw [if_pos hp] at hbl
  refine ⟨⟨hI.size, hI.defers, fun s τ hs => ?_⟩, hbl⟩
  rcases hL.ext_look s τ hs with ⟨j, oj, hoj, hds, hVj⟩ | ⟨hno, hl0⟩
  · exact hI.vals j oj s τ (lt j oj hoj) (hall j (lt j oj hoj)) hoj hds hVj
  · obtain ⟨u, h1, h2⟩ := hI.old hF hΓ hblk hw1 hl0
    exact ⟨u, by rw [hI.out s (fun j oj _ _ hoj => hno j oj hoj)]; exact h1, h2⟩
end

section
variable {P : Program} {w0 w1 : World} {t : TypeId} {g : Nat} {v : Value} {cs : Array Value} {Γ : Ctx} {N : Nat} {Vs : List Ty} {a0 : Act}
theorem region_w {id : Nat} {Q : Exit → Act → World → Prop} {l : List Oper} {draw : Bool} (n p : Nat) (hm : P.follows .mixedOrders = true) (hB : (regW l.toArray N n p && tailB l.toArray n) = true) (hF : Fr N Γ a0 w0) (hΓ : Γ.free t = true) (hblk : Blk w0 g t cs) (hcs : v.cells.size = cs.size) (hone : v.cells.all (·.oneCell') = true) (hw1 : w1 = w0.setCells g 0 v.cells.toList)
    (hL : LineW P l.toArray w0 w1 t g v p 0 Γ (l.take n) Vs)
    (hQ : ∀ a w, Fr N (extW Γ (l.take n) Vs) a w → Keeps [g] w0 w → Blk w g t v.cells → wpList P l.toArray Q (l.drop n) a w) : (Code.region id l.toArray draw).wp P Q a0 w0 := by
  rw [Bool.and_eq_true] at hB
  obtain ⟨hB, hT⟩ := hB
  have hsize : l.toArray.size = l.length := by simp
  have hnl : n ≤ l.toArray.size := by
    unfold tailB at hT
    split at hT
    · rename_i h; simp at h; simp [h]
    · simp only [Bool.and_eq_true, decide_eq_true_eq] at hT; omega
  have hlen : n = (l.take n).length := by simp at hnl ⊢; omega
  have hli : ∀ i, i < n → (l.take n)[i]? = l.toArray[i]? := fun i hi => by simp [hi]
  have hback : ∀ i o, i < n → l.toArray[i]? = some o → ∀ e ∈ o.after, Region.binds .any e = true → e.on < i := fun i o hi ho e he hb => by
    exact regW_back hB i o hi ho e he hb
  have fin : ∀ (listed : Array Bool) a w, TInvW N n p (l.take n) Vs a0 w0 w1 listed a w → (∀ i, i < n → listed.getD i false = true) → wpList P l.toArray Q (l.drop n) a w := fun listed a w hI hall => by
    obtain ⟨h1, h2⟩ := hI.all hB hL hlen hF hΓ hblk hw1 hall
    have hk01 : Keeps [g] w0 w1 := by rw [hw1]; exact Keeps.setCells (.inl (by simp)) _ _ (Keeps.refl _ _)
    have hsz1 : w1.heap.size = w0.heap.size := by rw [hw1]; exact size_setC _ _ _ _
    have hblk1 : Blk w1 g t v.cells := by
      have h := hblk.setCells v.cells.toList 0
      rw [splice_all _ _ (by simpa using hcs)] at h
      rw [hw1]
      simpa using h
    rw [← hsz1] at h2
    exact hQ a w h1 (hk01.trans (Keeps.of_below h2)) (hblk1.below h2)
  cases draw with
  | true =>
    have key : ∀ (f : Nat) (listed : Array Bool) (a : Act) (w : World), HeadInv .any l.toArray n listed → wanting n listed = f → TInvW N n p (l.take n) Vs a0 w0 w1 listed a w → wpAny P .any l.toArray Q (f + (l.toArray.size - n)) listed a w := by
      intro f
      induction f with
      | zero =>
        intro listed a w hH h0 hI
        have hall := wanting_zero h0
        have hdl : (l.drop n).length = l.toArray.size - n := by simp
        have e := all_listed hH hall hnl
        have hseq : Region.seqB .any l.toArray (l.toArray.size - n) n listed = true := by
          unfold tailB at hT
          split at hT
          · rename_i h
            have hz : n = l.toArray.size := by simpa using h
            have h2 : l.toArray.size - n = 0 := by omega
            rw [h2]
            simp only [Region.seqB, List.isEmpty_iff]
            unfold Region.ready
            rw [List.filter_eq_nil_iff]
            intro i hi
            have hi' := List.mem_range.1 hi
            have h3 := hall i (by omega)
            have hil : i < listed.size := by rw [hH.size]; exact hi'
            simp [Array.getD, hil] at h3 ⊢
            simp [h3]
          · simp only [Bool.and_eq_true] at hT
            rw [e]; exact hT.2
        have := wpAny_of_seq (md := .any) (Q' := Q) (l.drop n) n listed a w (fun j => by simp [List.getElem?_drop]) (by rw [hdl]; exact hseq) (fin listed a w hI hall)
        rw [Nat.zero_add]
        rwa [hdl] at this
      | succ f ih =>
        intro listed a w hH h0 hI
        rw [show f + 1 + (l.toArray.size - n) = (f + (l.toArray.size - n)) + 1 by omega]
        have hex : ∃ i, i < n ∧ listed.getD i true = false := by
          refine Classical.byContradiction fun hno => ?_
          have hz : wanting n listed = 0 := by
            unfold wanting
            rw [List.length_eq_zero_iff, List.filter_eq_nil_iff]
            intro i hi
            have hi' := List.mem_range.1 hi
            have hl : i < listed.size := by rw [hH.size]; omega
            have h1 : ¬ listed.getD i true = false := fun h => hno ⟨i, hi', h⟩
            simp [Array.getD, hl] at h1 ⊢
            exact h1
          omega
        obtain ⟨i0, hi0, hun0⟩ := hex
        refine ⟨fun hr => ?_, fun i hi => ?_⟩
        · exfalso
          have := ready_head hback hnl hH.size hr i0 hi0
          rw [getD_both hun0] at this
          cases this
        · obtain ⟨h1, o, ho, h2⟩ := mem_ready.1 hi
          have hin : i < n := Nat.lt_of_not_le fun h => by
            have hio := (Array.getElem?_eq_some_iff.1 ho).1
            unfold tailB at hT
            split at hT
            · rename_i h'; simp at h'; omega
            · simp only [Bool.and_eq_true, decide_eq_true_eq] at hT
              exact tail_waits hT.1.1.2 hT.1.2 hT.1.1.1 hH _ i0 rfl hi0 hun0 i h hi
          have hil : i < listed.size := by rw [hH.size]; omega
          have h3 := TInvW.step hB hli hL hF hΓ hblk hcs hone hw1 hI hH.size hH.closed hin ho (getD_both h1) h2 (wpAny P .any l.toArray Q (f + (l.toArray.size - n)) (listed.setIfInBounds i true)) Q (fun a' w' hI' => by
            refine ih _ a' w' (hH.set hi hin) ?_ hI'
            have := wanting_set hin hil (getD_both h1)
            omega)
          unfold wpOp
          simp only [ho]
          split
          · rename_i hw
            rw [if_pos hw] at h3
            exact .inl h3
          · rename_i hw
            rw [if_neg hw] at h3
            exact h3
    have inv0 : HeadInv .any l.toArray n (Array.replicate l.toArray.size false) :=
      ⟨by simp, fun j oj _ hl => (by rw [getD_replicate_false] at hl; cases hl), fun t _ ht => getD_in (by simpa using ht) (getD_replicate_false _ _)⟩
    have h0 : wanting n (Array.replicate l.toArray.size false) = n := by
      unfold wanting
      rw [List.filter_eq_self.2 (fun i _ => by rw [getD_replicate_false]; rfl), List.length_range]
    refine wp_region_any hm ?_
    have := key n _ a0 w0.drew inv0 h0 (TInvW.start hF (Below.refl _ _).drew _)
    rw [show n + (l.toArray.size - n) = l.toArray.size by omega] at this
    exact this
  | false =>
    have key : ∀ (f k : Nat) (a : Act) (w : World), k + f = n → TInvW N n p (l.take n) Vs a0 w0 w1 ((List.replicate k true ++ List.replicate (l.toArray.size - k) false).toArray) a w → wpList P l.toArray Q (l.drop k) a w := by
      intro f
      induction f with
      | zero =>
        intro k a w hk hI
        obtain rfl : k = n := by omega
        refine fin _ a w hI (fun i hi => ?_)
        simp [Array.getD, hi]
        omega
      | succ f ih =>
        intro k a w hk hI
        have hkn : k < n := by omega
        have hkl : k < l.length := by omega
        have hdrop : l.drop k = l[k] :: l.drop (k + 1) := by rw [List.drop_eq_getElem_cons hkl]
        have getD_k : ∀ m j, m ≤ l.toArray.size → (List.replicate m true ++ List.replicate (l.toArray.size - m) false).toArray.getD j false = decide (j < m) := fun m j hm => by
          by_cases hj : j < m
          · simp [Array.getD, hj]; omega
          · simp [Array.getD, List.getElem_append, hj]
        have ho : l.toArray[k]? = some l[k] := by simp [hkl]
        have hset : (List.replicate k true ++ List.replicate (l.toArray.size - k) false).toArray.setIfInBounds k true = (List.replicate (k + 1) true ++ List.replicate (l.toArray.size - (k + 1)) false).toArray := by
          apply Array.ext_getElem?
          intro j
          rw [show l.toArray.size - k = (l.toArray.size - (k + 1)) + 1 by omega, List.replicate_succ, List.replicate_succ']
          simp only [List.setIfInBounds_toArray, List.getElem?_toArray, List.append_assoc, List.singleton_append]
          rw [List.set_append_right _ _ (by simp)]
          simp
        rw [hdrop]
        refine wpList_step fun K hK => ?_
        refine TInvW.step hB hli hL hF hΓ hblk hcs hone hw1 hI (by simp; omega) (fun j oj hj hl e he hb => ?_) hkn ho (by rw [getD_k k k (by omega)]; simp) (fun e he hb => ?_) K Q (fun a' w' hI' => hK a' w' (ih (k + 1) a' w' (by omega) (by rw [← hset]; exact hI')))
        · rw [getD_k k _ (by omega)] at hl ⊢
          simp only [decide_eq_true_eq] at hl ⊢
          have := hback j oj (by omega) hj e he hb
          omega
        · rw [getD_k k _ (by omega)]
          simp only [decide_eq_true_eq]
          exact hback k _ hkn ho e he hb
    refine wp_region_lit ?_
    have := key n 0 a0 w0 (by omega) (by
      have e : (List.replicate 0 true ++ List.replicate (l.toArray.size - 0) false).toArray = Array.replicate l.toArray.size false := by simp
      rw [e]
      exact TInvW.start hF (Below.refl _ _) _)
    simpa using this
end
end Go.Proofs.YtgmeagkolahkoaaDoor

/- The functions of layer 13 by types, the program's and the document's. -/
namespace Go.Proofs.YtgmeagkolahkoaaDoor
open Go.RowKit

/-- Results of which the first lies in a variable. -/
theorem retCell2 {P : Program} {Γ : Ctx} {N : Nat} {a : Act} {w : World} {fn : Func} {R : Ending → World → Prop} {s s2 : Nat} {ty t : TypeId} {cs : Array Value} {g : Nat} {d : TypeDesc} {v2 : Value} (hF : Fr N Γ a w) (hr : fn.results = #[.cell s ty, .tmp s2]) (hs : look Γ s = some (Ty.ex (.pointer (some ⟨g, 0, none⟩)))) (hs2 : look Γ s2 = some (Ty.ex v2)) (hB : Blk w g t cs)
    (hu : P.underlying ty = some d) (hd : (match d with | .struct _ | .array _ _ => true | _ => false) = true) (hi : (P.info? ty).map (·.size) = some cs.size) (h : R (.returned (.tuple #[.agg cs, v2])) w) : bodyPost P fn R .ret a w := by
  have h1 : a.tmps[s]?.getD undef = .pointer (some ⟨g, 0, none⟩) := by have := hF.getEx hs; simpa [Act.eval, Array.getD_eq_getD_getElem?] using this
  have h2 : a.tmps[s2]?.getD undef = v2 := by have := hF.getEx hs2; simpa [Act.eval, Array.getD_eq_getD_getElem?] using this
  refine bodyPost_ret ?_ hF.defers h
  simp [results, hr, h1, h2, asAddr, run_loadVar_row w g t ty cs (0, 0) d hB hu hd hi]
theorem retCell3 {P : Program} {Γ : Ctx} {N : Nat} {a : Act} {w : World} {fn : Func} {R : Ending → World → Prop} {s s2 s3 : Nat} {ty t : TypeId} {cs : Array Value} {g : Nat} {d : TypeDesc} {v2 v3 : Value} (hF : Fr N Γ a w) (hr : fn.results = #[.cell s ty, .tmp s2, .tmp s3]) (hs : look Γ s = some (Ty.ex (.pointer (some ⟨g, 0, none⟩)))) (hs2 : look Γ s2 = some (Ty.ex v2)) (hs3 : look Γ s3 = some (Ty.ex v3)) (hB : Blk w g t cs)
    (hu : P.underlying ty = some d) (hd : (match d with | .struct _ | .array _ _ => true | _ => false) = true) (hi : (P.info? ty).map (·.size) = some cs.size) (h : R (.returned (.tuple #[.agg cs, v2, v3])) w) : bodyPost P fn R .ret a w := by
  have h1 : a.tmps[s]?.getD undef = .pointer (some ⟨g, 0, none⟩) := by have := hF.getEx hs; simpa [Act.eval, Array.getD_eq_getD_getElem?] using this
  have h2 : a.tmps[s2]?.getD undef = v2 := by have := hF.getEx hs2; simpa [Act.eval, Array.getD_eq_getD_getElem?] using this
  have h3 : a.tmps[s3]?.getD undef = v3 := by have := hF.getEx hs3; simpa [Act.eval, Array.getD_eq_getD_getElem?] using this
  refine bodyPost_ret ?_ hF.defers h
  simp [results, hr, h1, h2, h3, asAddr, run_loadVar_row w g t ty cs (0, 0) d hB hu hd hi]
theorem sumSz (s : Sm) : (Value.agg (u8s s.l)).cells.size = (Value.agg (u8s (List.replicate 32 0))).cells.size := by rw [zero32_size]; exact s.size
theorem clSz (c d : Cl) : (Value.agg c.a).cells.size = d.a.size := by rw [d.size]; exact c.size
set_option maxRecDepth 100000 in
theorem cellOf_ty (x : Sm) : Fn1 Tryd.prog 97 (Ty.ex (.agg (u8s x.l))) (Ty.ex (.agg (u8s (chk x).l))) := by
  refine ⟨fun args w => by kernel_rfl, fun w v hv => ?_⟩
  have hO := sumOf2_ty (e := 64) (τ := Ty.sl 5 1 ([67].map bv)) (σ := Ty.sl 25 32 x.enc) [67] x.l (reads_sl _ _ _) (by rw [x.len]; exact reads_sl _ _ _) (by simp) x.lt (by rw [x.len]; decide)
  have hY : shaL ([67] ++ x.l) = (chk x).l := rfl
  rw [hY] at hO
  generalize chk x = Y at *
  clear hY
  refine enter_ty 7 [Ty.ex (.agg (u8s x.l))] Tryd.func97 rfl (by kernel_rfl) ⟨hv, trivial⟩ fun a hF => ?_
  have hB := Below.refl w.heap.size w
  repeat with_reducible refine wp_seq ?_
  refine' reg_all hF ?_ mixed (by kernel_rfl) ?_
  rotate_left
  · repeat (first
        | exact Line.nil
        | (refine' Line.cons rfl (.new rfl rfl (run_alloc_i infoS) rfl) ?_; rotate_left)
        | ((refine' Line.cons rfl (.run rfl rfl ?_) ?_)
           any_goals exact cBoxSum rfl rfl
           rotate_left))
  intro a w1 hF hb hN
  have hBs := hB.size
  replace hB := hB.trans (hb.mono hB.size)
  dsimp only [ext, Option.getD] at hF
  repeat with_reducible first | refine wp_seq ?_ | refine nThen ?_
  obtain ⟨z, ⟨gx, rfl, hgx, hbx⟩, hF⟩ := hF.open (s := 2) rfl
  refine' region_ty 4 mixed (by kernel_rfl) hF ?_ ?_
  rotate_left
  · simp only [List.take_succ_cons, List.take_zero]
    repeat (first | exact Line.nil | ((refine' Line.cons rfl (.run rfl rfl ?_) ?_); (any_goals (first | exact cBuildV (vs := [.int .u8 67]) rfl (parts1v rfl rfl) Tryd.underlying64 infoU8 rfl (by simp [Value.cells]) (by decide) (by simp [maxLen]) | exact cSliceArr rfl (.t rfl) Tryd.underlying25 sizeU (by simp [maxLen]) | exact cBuildT (τs := [Ty.sl 5 1 ([67].map bv), Ty.sl 25 32 x.enc]) rfl (partsT2 rfl (.t rfl) (.t rfl) (Ty.sl_isSl _ _ _) (Ty.sl_isSl _ _ _)) Tryd.underlying95 infoB rfl | exact cCall1 rfl rfl hO)); rotate_left))
  intro a w2 hF hb hN
  have hBs := hB.size
  replace hB := hB.trans (hb.mono hB.size)
  simp only [List.take_succ_cons, List.take_zero, List.drop_succ_cons, List.drop_zero] at hF hN ⊢
  dsimp only [ext, Option.getD] at hF
  replace hbx := hbx.below hb
  refine tlStoreV (Δ := [(2, Ty.ex (.pointer (some ⟨_, 0, none⟩)))]) hF rfl rfl rfl rfl (hF.getEx (s := 6) rfl) hbx (sumSz Y) ((by show _ = some (u8s _).size; rw [Sm.size]; exact sizeS)) (u8s_one _) (hF.keep [2]) rfl ?_
  intro w3 hF hbx hkx
  refine wpList_nil ?_
  replace hB := below_own hB hkx (by intro y hy; simp only [List.mem_singleton] at hy; omega)
  repeat with_reducible first | refine nThen ?_ | refine wp_ret ?_
  refine retCell hF rfl rfl hbx (Tryd.underlying25) rfl ((by rw [show (Value.agg (u8s Y.l)).cells.size = 32 from Y.size]; exact sizeS)) ?_
  exact ⟨_, rfl, rfl, hB⟩
set_option maxRecDepth 100000 in
theorem change_ty (c : Cl) (x : Sm) (n : Int) : Fn3 Tryd.prog 69 (Ty.ex (.agg c.a)) (Ty.ex (.agg (u8s x.l))) (Ty.ex (.int .i64 n)) (Ty.ex (.agg (c.put x n).a)) := by
  refine ⟨fun args w => by kernel_rfl, fun w v u q hv hu hq => ?_⟩
  have hC := cellOf_ty x
  have hX1 := xor_ty c.key x
  have hX2 := xor_ty c.check (chk x)
  have hP : c.put x n = ⟨wrap64 (c.n + n), c.key.xor x, c.check.xor (chk x)⟩ := rfl
  rw [hP]
  clear hP
  generalize c.check.xor (chk x) = X2 at *
  generalize c.key.xor x = X1 at *
  generalize chk x = Y at *
  refine enter_ty 21 [Ty.ex (.agg c.a), Ty.ex (.agg (u8s x.l)), Ty.ex (.int .i64 n)] Tryd.func69 rfl (by kernel_rfl) ⟨hv, hu, hq, trivial⟩ fun a hF => ?_
  have hB := Below.refl w.heap.size w
  repeat with_reducible refine wp_seq ?_
  refine' reg_all hF ?_ mixed (by kernel_rfl) ?_
  rotate_left
  · repeat (first
        | exact Line.nil
        | (refine' Line.cons rfl (.new rfl rfl (run_alloc_i infoC34) rfl) ?_; rotate_left)
        | ((refine' Line.cons rfl (.run rfl rfl ?_) ?_)
           any_goals (first | exact cBoxCl rfl rfl | exact cBoxSum rfl rfl)
           rotate_left))
  intro a w1 hF hb hN
  have hBs := hB.size
  replace hB := hB.trans (hb.mono hB.size)
  dsimp only [ext, Option.getD] at hF
  repeat with_reducible first | refine wp_seq ?_ | refine nThen ?_
  obtain ⟨z, ⟨gx, rfl, hgx, hbx⟩, hF⟩ := hF.open (s := 6) rfl
  refine' region_ty 14 mixed (by kernel_rfl) hF ?_ ?_
  rotate_left
  · simp only [List.take_succ_cons, List.take_zero]
    repeat (first | exact Line.nil | ((refine' Line.cons rfl (.run rfl rfl ?_) ?_); (any_goals (first | exact cMove rfl rfl | exact cFldN34 rfl (.t rfl) | exact cFldK34 rfl (.t rfl) | exact cFldC34 rfl (.t rfl) | exact cLoadN rfl (.t rfl) | exact cLoadSum rfl (.t rfl) Tryd.underlying25 sizeS | exact OpOk.v (cAddW rfl rfl rfl) (congrArg (Value.int .i64) (wrap_is _)) | exact cCall2 rfl rfl rfl hX1 | exact cCall2 rfl rfl rfl hX2 | exact cCall1 rfl rfl hC | exact cBuild3 rfl rfl rfl rfl (fun w => buildC34 _ _ _ w))); rotate_left))
  intro a w2 hF hb hN
  have hBs := hB.size
  replace hB := hB.trans (hb.mono hB.size)
  simp only [List.take_succ_cons, List.take_zero, List.drop_succ_cons, List.drop_zero] at hF hN ⊢
  dsimp only [ext, Option.getD] at hF
  replace hbx := hbx.below hb
  refine tlStoreV (Δ := [(6, Ty.ex (.pointer (some ⟨_, 0, none⟩)))]) hF rfl rfl rfl rfl (hF.getEx (s := 20) rfl) hbx (clSz _ _) ((by show _ = some (Cl.a _).size; rw [Cl.size]; exact info34)) (Cl.one _) (hF.keep [6]) rfl ?_
  intro w3 hF hbx hkx
  refine wpList_nil ?_
  replace hB := below_own hB hkx (by intro y hy; simp only [List.mem_singleton] at hy; omega)
  repeat with_reducible first | refine nThen ?_ | refine wp_ret ?_
  refine retCell hF rfl rfl hbx (Tryd.underlying27) rfl ((by show _ = some (Cl.a _).size; rw [Cl.size]; exact info34)) ?_
  exact ⟨_, rfl, rfl, hB⟩
set_option maxRecDepth 100000 in
theorem put_ty (c : Cl) (x : Sm) : Fn2 Tryd.prog 43 (Ty.ex (.agg c.a)) (Ty.ex (.agg (u8s x.l))) (Ty.ex (.agg (c.put x 1).a)) := by
  refine ⟨fun args w => by kernel_rfl, fun w v u hv hu => ?_⟩
  have hC := change_ty c x 1
  generalize c.put x 1 = d at *
  refine enter_ty 8 [Ty.ex (.agg c.a), Ty.ex (.agg (u8s x.l))] Tryd.func43 rfl (by kernel_rfl) ⟨hv, hu, trivial⟩ fun a hF => ?_
  have hB := Below.refl w.heap.size w
  repeat with_reducible refine wp_seq ?_
  refine' reg_all hF ?_ mixed (by kernel_rfl) ?_
  rotate_left
  · repeat (first
        | exact Line.nil
        | (refine' Line.cons rfl (.new rfl rfl (run_alloc_i infoC34) rfl) ?_; rotate_left)
        | ((refine' Line.cons rfl (.run rfl rfl ?_) ?_)
           any_goals (first | exact cBoxCl rfl rfl | exact cBoxSum rfl rfl)
           rotate_left))
  intro a w1 hF hb hN
  have hBs := hB.size
  replace hB := hB.trans (hb.mono hB.size)
  dsimp only [ext, Option.getD] at hF
  repeat with_reducible first | refine wp_seq ?_ | refine nThen ?_
  obtain ⟨z, ⟨gx, rfl, hgx, hbx⟩, hF⟩ := hF.open (s := 4) rfl
  refine' region_ty 3 mixed (by kernel_rfl) hF ?_ ?_
  rotate_left
  · simp only [List.take_succ_cons, List.take_zero]
    repeat (first | exact Line.nil | ((refine' Line.cons rfl (.run rfl rfl ?_) ?_); (any_goals (first | exact cLoadCl34 rfl (.t rfl) | exact cLoadSum rfl (.t rfl) Tryd.underlying25 sizeS | exact cCall3 rfl rfl rfl rfl hC)); rotate_left))
  intro a w2 hF hb hN
  have hBs := hB.size
  replace hB := hB.trans (hb.mono hB.size)
  simp only [List.take_succ_cons, List.take_zero, List.drop_succ_cons, List.drop_zero] at hF hN ⊢
  dsimp only [ext, Option.getD] at hF
  replace hbx := hbx.below hb
  refine tlStoreV (Δ := [(4, Ty.ex (.pointer (some ⟨_, 0, none⟩)))]) hF rfl rfl rfl rfl (hF.getEx (s := 7) rfl) hbx (clSz _ _) ((by show _ = some (Cl.a _).size; rw [Cl.size]; exact info34)) (Cl.one _) (hF.keep [4]) rfl ?_
  intro w3 hF hbx hkx
  refine wpList_nil ?_
  replace hB := below_own hB hkx (by intro y hy; simp only [List.mem_singleton] at hy; omega)
  repeat with_reducible first | refine nThen ?_ | refine wp_ret ?_
  refine retCell hF rfl rfl hbx (Tryd.underlying27) rfl ((by show _ = some (Cl.a _).size; rw [Cl.size]; exact info34)) ?_
  exact ⟨_, rfl, rfl, hB⟩
set_option maxRecDepth 100000 in
theorem take_ty (c : Cl) (x : Sm) : Fn2 Tryd.prog 77 (Ty.ex (.agg c.a)) (Ty.ex (.agg (u8s x.l))) (Ty.ex (.agg (c.put x (-1)).a)) := by
  refine ⟨fun args w => by kernel_rfl, fun w v u hv hu => ?_⟩
  have hC := change_ty c x (-1)
  generalize c.put x (-1) = d at *
  refine enter_ty 8 [Ty.ex (.agg c.a), Ty.ex (.agg (u8s x.l))] Tryd.func77 rfl (by kernel_rfl) ⟨hv, hu, trivial⟩ fun a hF => ?_
  have hB := Below.refl w.heap.size w
  repeat with_reducible refine wp_seq ?_
  refine' reg_all hF ?_ mixed (by kernel_rfl) ?_
  rotate_left
  · repeat (first
        | exact Line.nil
        | (refine' Line.cons rfl (.new rfl rfl (run_alloc_i infoC34) rfl) ?_; rotate_left)
        | ((refine' Line.cons rfl (.run rfl rfl ?_) ?_)
           any_goals (first | exact cBoxCl rfl rfl | exact cBoxSum rfl rfl)
           rotate_left))
  intro a w1 hF hb hN
  have hBs := hB.size
  replace hB := hB.trans (hb.mono hB.size)
  dsimp only [ext, Option.getD] at hF
  repeat with_reducible first | refine wp_seq ?_ | refine nThen ?_
  obtain ⟨z, ⟨gx, rfl, hgx, hbx⟩, hF⟩ := hF.open (s := 4) rfl
  refine' region_ty 3 mixed (by kernel_rfl) hF ?_ ?_
  rotate_left
  · simp only [List.take_succ_cons, List.take_zero]
    repeat (first | exact Line.nil | ((refine' Line.cons rfl (.run rfl rfl ?_) ?_); (any_goals (first | exact cLoadCl34 rfl (.t rfl) | exact cLoadSum rfl (.t rfl) Tryd.underlying25 sizeS | exact cCall3 rfl rfl rfl rfl hC)); rotate_left))
  intro a w2 hF hb hN
  have hBs := hB.size
  replace hB := hB.trans (hb.mono hB.size)
  simp only [List.take_succ_cons, List.take_zero, List.drop_succ_cons, List.drop_zero] at hF hN ⊢
  dsimp only [ext, Option.getD] at hF
  replace hbx := hbx.below hb
  refine tlStoreV (Δ := [(4, Ty.ex (.pointer (some ⟨_, 0, none⟩)))]) hF rfl rfl rfl rfl (hF.getEx (s := 7) rfl) hbx (clSz _ _) ((by show _ = some (Cl.a _).size; rw [Cl.size]; exact info34)) (Cl.one _) (hF.keep [4]) rfl ?_
  intro w3 hF hbx hkx
  refine wpList_nil ?_
  replace hB := below_own hB hkx (by intro y hy; simp only [List.mem_singleton] at hy; omega)
  repeat with_reducible first | refine nThen ?_ | refine wp_ret ?_
  refine retCell hF rfl rfl hbx (Tryd.underlying27) rfl ((by show _ = some (Cl.a _).size; rw [Cl.size]; exact info34)) ?_
  exact ⟨_, rfl, rfl, hB⟩
set_option maxRecDepth 100000 in
theorem cminus_ty (c d : Cl) : Fn2 Tryd.prog 49 (Ty.ex (.agg c.a)) (Ty.ex (.agg d.a)) (Ty.ex (.agg (c.minus d).a)) := by
  refine ⟨fun args w => by kernel_rfl, fun w v u hv hu => ?_⟩
  have hX1 := xor_ty c.key d.key
  have hX2 := xor_ty c.check d.check
  have hP : c.minus d = ⟨wrap64 (c.n - d.n), c.key.xor d.key, c.check.xor d.check⟩ := rfl
  rw [hP]
  clear hP
  generalize c.check.xor d.check = X2 at *
  generalize c.key.xor d.key = X1 at *
  refine enter_ty 21 [Ty.ex (.agg c.a), Ty.ex (.agg d.a)] Tryd.func49 rfl (by kernel_rfl) ⟨hv, hu, trivial⟩ fun a hF => ?_
  have hB := Below.refl w.heap.size w
  repeat with_reducible refine wp_seq ?_
  refine' reg_all hF ?_ mixed (by kernel_rfl) ?_
  rotate_left
  · repeat (first
        | exact Line.nil
        | (refine' Line.cons rfl (.new rfl rfl (run_alloc_i infoC34) rfl) ?_; rotate_left)
        | ((refine' Line.cons rfl (.run rfl rfl ?_) ?_)
           any_goals exact cBoxCl rfl rfl
           rotate_left))
  intro a w1 hF hb hN
  have hBs := hB.size
  replace hB := hB.trans (hb.mono hB.size)
  dsimp only [ext, Option.getD] at hF
  repeat with_reducible first | refine wp_seq ?_ | refine nThen ?_
  obtain ⟨z, ⟨gx, rfl, hgx, hbx⟩, hF⟩ := hF.open (s := 4) rfl
  refine' region_ty 16 mixed (by kernel_rfl) hF ?_ ?_
  rotate_left
  · simp only [List.take_succ_cons, List.take_zero]
    repeat (first | exact Line.nil | ((refine' Line.cons rfl (.run rfl rfl ?_) ?_); (any_goals (first | exact cFldN34 rfl (.t rfl) | exact cFldK34 rfl (.t rfl) | exact cFldC34 rfl (.t rfl) | exact cLoadN rfl (.t rfl) | exact cLoadSum rfl (.t rfl) Tryd.underlying25 sizeS | exact OpOk.v (cSubW rfl rfl rfl) (congrArg (Value.int .i64) (wrap_is _)) | exact cCall2 rfl rfl rfl hX1 | exact cCall2 rfl rfl rfl hX2 | exact cBuild3 rfl rfl rfl rfl (fun w => buildC34 _ _ _ w))); rotate_left))
  intro a w2 hF hb hN
  have hBs := hB.size
  replace hB := hB.trans (hb.mono hB.size)
  simp only [List.take_succ_cons, List.take_zero, List.drop_succ_cons, List.drop_zero] at hF hN ⊢
  dsimp only [ext, Option.getD] at hF
  replace hbx := hbx.below hb
  refine tlStoreV (Δ := [(4, Ty.ex (.pointer (some ⟨_, 0, none⟩)))]) hF rfl rfl rfl rfl (hF.getEx (s := 20) rfl) hbx (clSz _ _) ((by show _ = some (Cl.a _).size; rw [Cl.size]; exact info34)) (Cl.one _) (hF.keep [4]) rfl ?_
  intro w3 hF hbx hkx
  refine wpList_nil ?_
  replace hB := below_own hB hkx (by intro y hy; simp only [List.mem_singleton] at hy; omega)
  repeat with_reducible first | refine nThen ?_ | refine wp_ret ?_
  refine retCell hF rfl rfl hbx (Tryd.underlying27) rfl ((by show _ = some (Cl.a _).size; rw [Cl.size]; exact info34)) ?_
  exact ⟨_, rfl, rfl, hB⟩
set_option maxRecDepth 100000 in
theorem czero_ty (c : Cl) : Fn1 Tryd.prog 80 (Ty.ex (.agg c.a)) (Ty.ex (.bool (decide (c = Cl.zero)))) := by
  refine ⟨fun args w => by kernel_rfl, fun w v hv => ?_⟩
  refine enter_ty 6 [Ty.ex (.agg c.a)] Tryd.func80 rfl (by kernel_rfl) ⟨hv, trivial⟩ fun a hF => ?_
  have hB := Below.refl w.heap.size w
  repeat with_reducible refine wp_seq ?_
  refine' reg_all hF ?_ mixed (by kernel_rfl) ?_
  rotate_left
  · repeat (first | exact Line.nil | ((refine' Line.cons rfl (.run rfl rfl ?_) ?_); (any_goals (first | exact cAssign rfl rfl | exact cBoxCl rfl rfl)); rotate_left))
  intro a w1 hF hb hN
  have hBs := hB.size
  replace hB := hB.trans (hb.mono hB.size)
  dsimp only [ext, Option.getD] at hF
  repeat with_reducible first | refine wp_seq ?_ | refine nThen ?_
  refine' reg_all hF ?_ mixed (by kernel_rfl) ?_
  rotate_left
  · repeat (first | exact Line.nil | ((refine' Line.cons rfl (.run rfl rfl ?_) ?_); (any_goals (first | exact cAssign rfl rfl | exact cLoadCl34 rfl (.t rfl) | exact cBuildE rfl (fun w => buildZ34 w) | exact cEqlAgg rfl rfl rfl guard34 (fun w => eql_cl34 _ _ w))); rotate_left))
  intro a w2 hF hb hN
  have hBs := hB.size
  replace hB := hB.trans (hb.mono hB.size)
  dsimp only [ext, Option.getD] at hF
  repeat with_reducible first | refine nThen ?_ | refine wp_ret ?_
  refine ret1 hF rfl rfl fun z hz => ?_
  exact ⟨z, rfl, hz, hB⟩
theorem buildS0 (w : World) : (Instr.build 25 #[]).run Tryd.prog w = .ok (.agg (u8s Sm.zero.l)) w := by kernel_rfl
/-- What Pure tells of a cell. -/
def Cl.sum (c : Cl) : Sm := if c.ok then c.key else Sm.zero
def Cl.plus (c : Cl) : Bool := c.ok && decide (c.n = 1)
set_option maxRecDepth 100000 in
set_option maxHeartbeats 1000000 in
theorem pure_ty (c : Cl) : Fn1 Tryd.prog 75 (Ty.ex (.agg c.a)) (Ty.ex (.tuple #[.agg (u8s c.sum.l), .bool c.plus, .bool c.ok])) := by
  refine ⟨fun args w => by kernel_rfl, fun w v hv => ?_⟩
  have hC := cellOf_ty c.key
  have bad : ∀ (hok : c.ok = false), c.sum = Sm.zero ∧ c.plus = false := fun hok => by unfold Cl.sum Cl.plus; rw [hok]; exact ⟨rfl, rfl⟩
  by_cases hn : c.n = 1 ∨ c.n = -1
  rotate_left
  · have hok : c.ok = false := by
      unfold Cl.ok
      rw [decide_eq_false (fun h => hn (.inl h)), decide_eq_false (fun h => hn (.inr h))]
      rfl
    have h1 : (!decide (c.n = 1)) = true := by rw [decide_eq_false (fun h => hn (.inl h))]; rfl
    have h2 : (!decide (c.n = -1)) = true := by rw [decide_eq_false (fun h => hn (.inr h))]; rfl
    rw [(bad hok).1, (bad hok).2, hok]
    refine enter_ty 27 [Ty.ex (.agg c.a)] Tryd.func75 rfl (by kernel_rfl) ⟨hv, trivial⟩ fun a hF => ?_
    have hB := Below.refl w.heap.size w
    repeat with_reducible refine wp_seq ?_
    refine' reg_all hF ?_ mixed (by kernel_rfl) ?_
    rotate_left
    · repeat (first
          | exact Line.nil
          | (refine' Line.cons rfl (.new rfl rfl (run_alloc_i infoS) rfl) ?_; rotate_left)
          | ((refine' Line.cons rfl (.run rfl rfl ?_) ?_)
             any_goals (first | exact cAssign rfl rfl | exact cBoxCl rfl rfl)
             rotate_left))
    intro a w1 hF hb hN
    have hBs := hB.size
    replace hB := hB.trans (hb.mono hB.size)
    dsimp only [ext, Option.getD] at hF
    repeat with_reducible first | refine wp_seq ?_ | refine nThen ?_
    obtain ⟨z, ⟨gx, rfl, hgx, hbx⟩, hF⟩ := hF.open (s := 2) rfl
    refine' reg_all hF ?_ mixed (by kernel_rfl) ?_
    rotate_left
    · repeat (first | exact Line.nil | (refine' Line.cons rfl (.no rfl rfl rfl rfl rfl rfl) ?_; rotate_left) | ((first | refine' Line.cons rfl (.run rfl rfl ?_) ?_ | refine' Line.cons rfl (.yes rfl rfl rfl rfl ?_) ?_); (any_goals (first | exact cMove rfl rfl | exact cFldN34 rfl (.t rfl) | exact cLoadN rfl (.t rfl) | exact OpOk.b (cNeq rfl rfl rfl) h1 | exact OpOk.b (cNeq rfl rfl rfl) h2 | exact cPickT rfl rfl rfl)); rotate_left))
    intro a w2 hF hb hN
    have hBs := hB.size
    replace hB := hB.trans (hb.mono hB.size)
    dsimp only [ext, Option.getD] at hF
    repeat with_reducible refine nThen ?_
    replace hbx := hbx.below hb
    refine cond_t hF rfl ?_
    repeat with_reducible refine wp_seq ?_
    refine' region_ty 1 mixed (by kernel_rfl) hF ?_ ?_
    rotate_left
    · simp only [List.take_succ_cons, List.take_zero]
      repeat (first | exact Line.nil | ((refine' Line.cons rfl (.run rfl rfl ?_) ?_); (any_goals exact cBuildE rfl (fun w => buildS0 w)); rotate_left))
    intro a w3 hF hb hN
    have hBs := hB.size
    replace hB := hB.trans (hb.mono hB.size)
    simp only [List.take_succ_cons, List.take_zero, List.drop_succ_cons, List.drop_zero] at hF hN ⊢
    dsimp only [ext, Option.getD] at hF
    replace hbx := hbx.below hb
    refine tlStoreV (Δ := [(2, Ty.ex (.pointer (some ⟨gx, 0, none⟩)))]) hF rfl rfl rfl rfl (hF.getEx (s := 21) rfl) hbx (sumSz _) (by show _ = some (u8s _).size; rw [Sm.size]; exact sizeS) (u8s_one _) (hF.keep [2]) rfl ?_
    intro w4 hF hbx hkx
    replace hB := below_own hB hkx (by intro y hy; simp only [List.mem_singleton] at hy; omega)
    refine' tlOp hF rfl rfl rfl ?_ ?_
    rotate_left
    · exact cAssign rfl rfl
    intro a w5 hF hb
    have hBs := hB.size
    replace hB := hB.trans (hb.mono hB.size)
    try (refine wpList_nil ?_)
    replace hbx := hbx.below hb
    refine' tlOp hF rfl rfl rfl ?_ ?_
    rotate_left
    · exact cAssign rfl rfl
    intro a w6 hF hb
    have hBs := hB.size
    replace hB := hB.trans (hb.mono hB.size)
    try (refine wpList_nil ?_)
    repeat with_reducible first | refine nThen ?_ | refine wp_ret ?_ | refine rThen ?_
    replace hbx := hbx.below hb
    refine retCell3 hF rfl rfl rfl rfl hbx Tryd.underlying25 rfl (by show _ = some (u8s _).size; rw [Sm.size]; exact sizeS) ?_
    exact ⟨_, rfl, rfl, hB⟩
  by_cases hk : c.check = chk c.key
  rotate_left
  · have hok : c.ok = false := by
      unfold Cl.ok
      rw [decide_eq_false hk, Bool.and_false]
    rw [(bad hok).1, (bad hok).2, hok]
    refine enter_ty 27 [Ty.ex (.agg c.a)] Tryd.func75 rfl (by kernel_rfl) ⟨hv, trivial⟩ fun a hF => ?_
    have hB := Below.refl w.heap.size w
    repeat with_reducible refine wp_seq ?_
    refine' reg_all hF ?_ mixed (by kernel_rfl) ?_
    rotate_left
    · repeat (first
          | exact Line.nil
          | (refine' Line.cons rfl (.new rfl rfl (run_alloc_i infoS) rfl) ?_; rotate_left)
          | ((refine' Line.cons rfl (.run rfl rfl ?_) ?_)
             any_goals (first | exact cAssign rfl rfl | exact cBoxCl rfl rfl)
             rotate_left))
    intro a w1 hF hb hN
    have hBs := hB.size
    replace hB := hB.trans (hb.mono hB.size)
    dsimp only [ext, Option.getD] at hF
    repeat with_reducible first | refine wp_seq ?_ | refine nThen ?_
    obtain ⟨z, ⟨gx, rfl, hgx, hbx⟩, hF⟩ := hF.open (s := 2) rfl
    refine wp_mono (Q := fun e a w2 => e = .normal ∧ Fr 27 [(2, Ty.ex (.pointer (some ⟨gx, 0, none⟩))), (20, Ty.ex (.bool true))] a w2 ∧ Below w.heap.size w w2 ∧ Blk w2 gx 25 (Value.agg (u8s (List.replicate 32 0))).cells) ?_ ?_
    · rcases hn with h1 | h1
      · have e1 : (!decide (c.n = 1)) = false := by rw [decide_eq_true h1]; rfl
        refine' reg_all hF ?_ mixed (by kernel_rfl) ?_
        rotate_left
        · repeat (first | exact Line.nil | (refine' Line.cons rfl (.no rfl rfl rfl rfl rfl rfl) ?_; rotate_left) | ((first | refine' Line.cons rfl (.run rfl rfl ?_) ?_ | refine' Line.cons rfl (.yes rfl rfl rfl rfl ?_) ?_); (any_goals (first | exact cMove rfl rfl | exact cFldN34 rfl (.t rfl) | exact cLoadN rfl (.t rfl) | exact OpOk.b (cNeq rfl rfl rfl) e1 | exact cFldC34 rfl (.t rfl) | exact cFldK34 rfl (.t rfl) | exact cLoadSum rfl (.t rfl) Tryd.underlying25 sizeS | exact cCall1 rfl rfl hC | exact OpOk.b (c := true) (cNeqAgg rfl rfl rfl guardS (fun w => neqS _ _ w)) (by rw [decide_eq_false hk]; rfl) | exact cPickF rfl rfl rfl)); rotate_left))
        intro a w2 hF hb hN
        have hBs := hB.size
        replace hB := hB.trans (hb.mono hB.size)
        dsimp only [ext, Option.getD] at hF
        exact ⟨rfl, hF.keep [2, 20], hB, hbx.below hb⟩
      · have e1 : (!decide (c.n = 1)) = true := by rw [h1]; rfl
        have e2 : (!decide (c.n = -1)) = false := by rw [h1]; rfl
        refine' reg_all hF ?_ mixed (by kernel_rfl) ?_
        rotate_left
        · repeat (first | exact Line.nil | ((first | refine' Line.cons rfl (.run rfl rfl ?_) ?_ | refine' Line.cons rfl (.yes rfl rfl rfl rfl ?_) ?_); (any_goals (first | exact cMove rfl rfl | exact cFldN34 rfl (.t rfl) | exact cLoadN rfl (.t rfl) | exact OpOk.b (cNeq rfl rfl rfl) e1 | exact OpOk.b (cNeq rfl rfl rfl) e2 | exact cFldC34 rfl (.t rfl) | exact cFldK34 rfl (.t rfl) | exact cLoadSum rfl (.t rfl) Tryd.underlying25 sizeS | exact cCall1 rfl rfl hC | exact OpOk.b (c := true) (cNeqAgg rfl rfl rfl guardS (fun w => neqS _ _ w)) (by rw [decide_eq_false hk]; rfl) | exact cPickT rfl rfl rfl | exact cPickF rfl rfl rfl)); rotate_left))
        intro a w2 hF hb hN
        have hBs := hB.size
        replace hB := hB.trans (hb.mono hB.size)
        dsimp only [ext, Option.getD] at hF
        exact ⟨rfl, hF.keep [2, 20], hB, hbx.below hb⟩
    clear hF hB hbx
    rintro e a w2 ⟨rfl, hF, hB, hbx⟩
    repeat with_reducible refine nThen ?_
    refine cond_t hF rfl ?_
    repeat with_reducible refine wp_seq ?_
    refine' region_ty 1 mixed (by kernel_rfl) hF ?_ ?_
    rotate_left
    · simp only [List.take_succ_cons, List.take_zero]
      repeat (first | exact Line.nil | ((refine' Line.cons rfl (.run rfl rfl ?_) ?_); (any_goals exact cBuildE rfl (fun w => buildS0 w)); rotate_left))
    intro a w3 hF hb hN
    have hBs := hB.size
    replace hB := hB.trans (hb.mono hB.size)
    simp only [List.take_succ_cons, List.take_zero, List.drop_succ_cons, List.drop_zero] at hF hN ⊢
    dsimp only [ext, Option.getD] at hF
    replace hbx := hbx.below hb
    refine tlStoreV (Δ := [(2, Ty.ex (.pointer (some ⟨gx, 0, none⟩)))]) hF rfl rfl rfl rfl (hF.getEx (s := 21) rfl) hbx (sumSz _) (by show _ = some (u8s _).size; rw [Sm.size]; exact sizeS) (u8s_one _) (hF.keep [2]) rfl ?_
    intro w4 hF hbx hkx
    replace hB := below_own hB hkx (by intro y hy; simp only [List.mem_singleton] at hy; omega)
    refine' tlOp hF rfl rfl rfl ?_ ?_
    rotate_left
    · exact cAssign rfl rfl
    intro a w5 hF hb
    have hBs := hB.size
    replace hB := hB.trans (hb.mono hB.size)
    try (refine wpList_nil ?_)
    replace hbx := hbx.below hb
    refine' tlOp hF rfl rfl rfl ?_ ?_
    rotate_left
    · exact cAssign rfl rfl
    intro a w6 hF hb
    have hBs := hB.size
    replace hB := hB.trans (hb.mono hB.size)
    try (refine wpList_nil ?_)
    repeat with_reducible first | refine nThen ?_ | refine wp_ret ?_ | refine rThen ?_
    replace hbx := hbx.below hb
    refine retCell3 hF rfl rfl rfl rfl hbx Tryd.underlying25 rfl (by show _ = some (u8s _).size; rw [Sm.size]; exact sizeS) ?_
    exact ⟨_, rfl, rfl, hB⟩
  have hok : c.ok = true := by
    unfold Cl.ok
    rw [decide_eq_true hk]
    rcases hn with h | h <;> rw [h] <;> rfl
  have hsum : c.sum = c.key := by unfold Cl.sum; rw [hok]; rfl
  have hplus : c.plus = decide (c.n = 1) := by unfold Cl.plus; rw [hok]; rfl
  rw [hsum, hplus, hok]
  refine enter_ty 27 [Ty.ex (.agg c.a)] Tryd.func75 rfl (by kernel_rfl) ⟨hv, trivial⟩ fun a hF => ?_
  have hB := Below.refl w.heap.size w
  repeat with_reducible refine wp_seq ?_
  refine' reg_all hF ?_ mixed (by kernel_rfl) ?_
  rotate_left
  · repeat (first
        | exact Line.nil
        | (refine' Line.cons rfl (.new rfl rfl (run_alloc_i infoS) rfl) ?_; rotate_left)
        | ((refine' Line.cons rfl (.run rfl rfl ?_) ?_)
           any_goals (first | exact cAssign rfl rfl | exact cBoxCl rfl rfl)
           rotate_left))
  intro a w1 hF hb hN
  have hBs := hB.size
  replace hB := hB.trans (hb.mono hB.size)
  dsimp only [ext, Option.getD] at hF
  repeat with_reducible first | refine wp_seq ?_ | refine nThen ?_
  obtain ⟨z, ⟨gx, rfl, hgx, hbx⟩, hF⟩ := hF.open (s := 2) rfl
  refine wp_mono (Q := fun e a w2 => e = .normal ∧ Fr 27 [(1, Ty.at_ 27 c.enc), (2, Ty.ex (.pointer (some ⟨gx, 0, none⟩))), (20, Ty.ex (.bool false))] a w2 ∧ Below w.heap.size w w2 ∧ Blk w2 gx 25 (Value.agg (u8s (List.replicate 32 0))).cells) ?_ ?_
  · rcases hn with h1 | h1
    · have e1 : (!decide (c.n = 1)) = false := by rw [decide_eq_true h1]; rfl
      refine' reg_all hF ?_ mixed (by kernel_rfl) ?_
      rotate_left
      · repeat (first | exact Line.nil | (refine' Line.cons rfl (.no rfl rfl rfl rfl rfl rfl) ?_; rotate_left) | ((first | refine' Line.cons rfl (.run rfl rfl ?_) ?_ | refine' Line.cons rfl (.yes rfl rfl rfl rfl ?_) ?_); (any_goals (first | exact cMove rfl rfl | exact cFldN34 rfl (.t rfl) | exact cLoadN rfl (.t rfl) | exact OpOk.b (cNeq rfl rfl rfl) e1 | exact cFldC34 rfl (.t rfl) | exact cFldK34 rfl (.t rfl) | exact cLoadSum rfl (.t rfl) Tryd.underlying25 sizeS | exact cCall1 rfl rfl hC | exact OpOk.b (c := false) (cNeqAgg rfl rfl rfl guardS (fun w => neqS _ _ w)) (by rw [decide_eq_true hk]; rfl) | exact cPickF rfl rfl rfl)); rotate_left))
      intro a w2 hF hb hN
      have hBs := hB.size
      replace hB := hB.trans (hb.mono hB.size)
      dsimp only [ext, Option.getD] at hF
      exact ⟨rfl, hF.keep [1, 2, 20], hB, hbx.below hb⟩
    · have e1 : (!decide (c.n = 1)) = true := by rw [h1]; rfl
      have e2 : (!decide (c.n = -1)) = false := by rw [h1]; rfl
      refine' reg_all hF ?_ mixed (by kernel_rfl) ?_
      rotate_left
      · repeat (first | exact Line.nil | ((first | refine' Line.cons rfl (.run rfl rfl ?_) ?_ | refine' Line.cons rfl (.yes rfl rfl rfl rfl ?_) ?_); (any_goals (first | exact cMove rfl rfl | exact cFldN34 rfl (.t rfl) | exact cLoadN rfl (.t rfl) | exact OpOk.b (cNeq rfl rfl rfl) e1 | exact OpOk.b (cNeq rfl rfl rfl) e2 | exact cFldC34 rfl (.t rfl) | exact cFldK34 rfl (.t rfl) | exact cLoadSum rfl (.t rfl) Tryd.underlying25 sizeS | exact cCall1 rfl rfl hC | exact OpOk.b (c := false) (cNeqAgg rfl rfl rfl guardS (fun w => neqS _ _ w)) (by rw [decide_eq_true hk]; rfl) | exact cPickT rfl rfl rfl | exact cPickF rfl rfl rfl)); rotate_left))
      intro a w2 hF hb hN
      have hBs := hB.size
      replace hB := hB.trans (hb.mono hB.size)
      dsimp only [ext, Option.getD] at hF
      exact ⟨rfl, hF.keep [1, 2, 20], hB, hbx.below hb⟩
  clear hF hB hbx
  rintro e a w2 ⟨rfl, hF, hB, hbx⟩
  repeat with_reducible refine nThen ?_
  refine cond_f hF rfl ?_
  repeat with_reducible first | refine wp_seq ?_ | refine nThen ?_ | refine wp_skip ?_
  refine' region_w (v := .agg (u8s c.key.l)) 6 5 mixed (by kernel_rfl) hF rfl hbx (sumSz _) (u8s_one _) rfl ?_ ?_
  rotate_left
  · simp only [List.take_succ_cons, List.take_zero]
    repeat (first
      | exact LineW.nil
      | (refine' LineW.store rfl rfl rfl rfl rfl rfl ((by show _ = some (u8s _).size; rw [Sm.size]; exact sizeS)) ?_; rotate_left)
      | ((first | refine' LineW.cons rfl rfl (.no rfl rfl rfl rfl rfl rfl) (.no rfl rfl rfl rfl rfl rfl) rfl ?_ | refine' LineW.cons rfl rfl (.run rfl rfl ?_) (.run rfl rfl ?_) ?_ ?_ | refine' LineW.cons rfl rfl (.yes rfl rfl rfl rfl ?_) (.yes rfl rfl rfl rfl ?_) ?_ ?_)
         any_goals (first | exact cFldN34 rfl (.t rfl) | exact cLoadN rfl (.t rfl) | exact cFldK34 rfl (.t rfl) | exact cLoadSum rfl (.t rfl) Tryd.underlying25 sizeS | exact cEql rfl rfl rfl | exact rfl)
         rotate_left))
  intro a w4 hF hkx hbx
  replace hB := below_own hB hkx (by intro y hy; simp only [List.mem_singleton] at hy; omega)
  simp only [List.take_succ_cons, List.take_zero, List.drop_succ_cons, List.drop_zero] at hF ⊢
  dsimp only [extW] at hF
  refine' tlOp hF rfl rfl rfl ?_ ?_
  rotate_left
  · exact cAssign rfl rfl
  intro a w5 hF hb
  have hBs := hB.size
  replace hB := hB.trans (hb.mono hB.size)
  try (refine wpList_nil ?_)
  replace hbx := hbx.below hb
  refine' tlOp hF rfl rfl rfl ?_ ?_
  rotate_left
  · exact cAssign rfl rfl
  intro a w6 hF hb
  have hBs := hB.size
  replace hB := hB.trans (hb.mono hB.size)
  try (refine wpList_nil ?_)
  repeat with_reducible first | refine nThen ?_ | refine wp_ret ?_
  replace hbx := hbx.below hb
  refine retCell3 hF rfl rfl rfl rfl hbx Tryd.underlying25 rfl (by show _ = some (u8s _).size; rw [Sm.size]; exact sizeS) ?_
  exact ⟨_, rfl, rfl, hB⟩
end Go.Proofs.YtgmeagkolahkoaaDoor

/- Layer 10: the walks of small helpers: rows copied, rows compared. -/
namespace Go.Proofs.YtgmeagkolahkoaaDoor
open Go.RowKit

end Go.Proofs.YtgmeagkolahkoaaDoor

/- Rows of bytes compared: plainly. -/
namespace Go.Proofs.YtgmeagkolahkoaaDoor

def cmpL : List Nat → List Nat → Int
  | [], [] => 0
  | [], _ :: _ => -1
  | _ :: _, [] => 1
  | a :: x, b :: y => if a < b then -1 else if b < a then 1 else cmpL x y
theorem cmpL_swap : ∀ x y : List Nat, cmpL y x = - cmpL x y
  | [], [] => rfl
  | [], _ :: _ => rfl
  | _ :: _, [] => rfl
  | a :: x, b :: y => by
    have ih := cmpL_swap x y
    unfold cmpL
    by_cases h1 : a < b
    · rw [if_neg (by omega), if_pos h1, if_pos h1]; rfl
    · by_cases h2 : b < a
      · rw [if_pos h2, if_neg h1, if_pos h2]
      · rw [if_neg h2, if_neg h1, if_neg h1, if_neg h2]; exact ih
theorem cmpL_eq : ∀ x y : List Nat, cmpL x y = 0 ↔ x = y
  | [], [] => by simp [cmpL]
  | [], _ :: _ => by simp [cmpL]
  | _ :: _, [] => by simp [cmpL]
  | a :: x, b :: y => by
    have ih := cmpL_eq x y
    unfold cmpL
    by_cases h1 : a < b
    · rw [if_pos h1]; simp; omega
    · by_cases h2 : b < a
      · rw [if_neg h1, if_pos h2]; simp; omega
      · rw [if_neg h1, if_neg h2, ih]
        have : a = b := by omega
        simp [this]
theorem cmpL_trans : ∀ x y z : List Nat, cmpL x y ≤ 0 → cmpL y z ≤ 0 → cmpL x z ≤ 0 ∧ (cmpL x y < 0 ∨ cmpL y z < 0 → cmpL x z < 0)
  | [], [], [] => by simp [cmpL]
  | [], [], _ :: _ => by simp [cmpL]
  | [], _ :: _, [] => by simp [cmpL]
  | [], _ :: _, _ :: _ => by simp [cmpL]
  | _ :: _, [], _ => by simp [cmpL]
  | _ :: _, _ :: _, [] => by intro _ h; simp [cmpL] at h
  | a :: x, b :: y, c :: z => by
    have ih := cmpL_trans x y z
    intro h1 h2
    unfold cmpL at h1 h2 ⊢
    by_cases ab : a < b
    · by_cases bc : c < b
      · rw [if_neg (by omega), if_pos bc] at h2; omega
      · rw [if_pos (show a < c by omega)]; exact ⟨by omega, fun _ => by omega⟩
    · by_cases ba : b < a
      · rw [if_neg ab, if_pos ba] at h1; omega
      · rw [if_neg ab, if_neg ba] at h1 ⊢
        have e : a = b := by omega
        subst e
        by_cases ac : a < c
        · rw [if_pos ac]; exact ⟨by omega, fun _ => by omega⟩
        · by_cases ca : c < a
          · rw [if_neg ac, if_pos ca] at h2; omega
          · rw [if_neg ac, if_neg ca] at h2
            rw [if_neg ac, if_neg ca]
            rw [if_neg ac, if_neg ca]
            exact ih h1 h2

end Go.Proofs.YtgmeagkolahkoaaDoor

/- Sums compared by their bytes: plainly; the walks of bytes.Compare and Sum.Cmp. -/
namespace Go.Proofs.YtgmeagkolahkoaaDoor
open Go.RowKit

theorem cmpL_bytes : ∀ (x y : List Nat), (∀ a ∈ x, a < 256) → (∀ a ∈ y, a < 256) → Lib.compareBytes (bytesU x) (bytesU y) = cmpL x y
  | [], [], _, _ => rfl
  | [], _ :: _, _, _ => rfl
  | _ :: _, [], _, _ => rfl
  | a :: x, b :: y, hx, hy => by
    have ih := cmpL_bytes x y (fun z hz => hx z (by simp [hz])) (fun z hz => hy z (by simp [hz]))
    have ha := u8_toNat (hx a (by simp))
    have hb := u8_toNat (hy b (by simp))
    have h1 : (UInt8.ofNat a < UInt8.ofNat b) ↔ a < b := by rw [UInt8.lt_iff_toNat_lt, ha, hb]
    have h2 : (UInt8.ofNat b < UInt8.ofNat a) ↔ b < a := by rw [UInt8.lt_iff_toNat_lt, ha, hb]
    show (if UInt8.ofNat a < UInt8.ofNat b then (-1 : Int) else if UInt8.ofNat b < UInt8.ofNat a then 1 else Lib.compareBytes (bytesU x) (bytesU y)) = _
    rw [ih]
    simp only [h1, h2, cmpL]

theorem run_bytesOf_rd {P : Program} (w : World) (A : Option Addr) (n cap : Nat) (l : List Nat) (hl : l.length = n) (hr : Rd w A (l.map bv)) (hA : A = none → n = 0) (hx : ∀ x ∈ l, x < 256) :
    (Extern.Bytes.bytesOf (.slice A n cap)).run P w = .ok ⟨(bytesU l).toArray⟩ w := by
  cases A with
  | none =>
    have : l = [] := List.eq_nil_of_length_eq_zero (by rw [hl]; exact hA rfl)
    subst this
    rfl
  | some a =>
    subst hl
    have h := Lib.run_loadBytesX (P := P) w (l.map Int.ofNat) a .empty (fun j x hj => by
      rw [List.getElem?_map] at hj
      obtain ⟨y, hy, rfl⟩ := Option.map_eq_some_iff.1 hj
      obtain ⟨ad, e, hc⟩ := hr j (bv y) (by rw [List.getElem?_map, hy]; rfl)
      injection e with e
      subst e
      exact hc)
    rw [List.length_map] at h
    have e : Lib.bytesOf (l.map Int.ofNat) = bytesU l := by
      unfold Lib.bytesOf bytesU
      rw [List.map_map]
      apply List.map_congr_left
      intro x _
      rfl
    rw [e] at h
    simp only [Extern.Bytes.bytesOf]
    rw [h]
    congr 1
    apply ByteArray.ext
    simp
set_option maxRecDepth 100000 in
theorem Compare_any (A B : Option Addr) (n m c d : Nat) (x y : List Nat) (w : World) (hx : x.length = n) (hy : y.length = m) (hr1 : Rd w A (x.map bv)) (hr2 : Rd w B (y.map bv)) (hA : A = none → n = 0) (hB : B = none → m = 0) (h1 : ∀ a ∈ x, a < 256) (h2 : ∀ a ∈ y, a < 256) :
    Calls Tryd.prog 68 #[.slice A n c, .slice B m d] w fun e w' => e = .returned (.int .i64 (cmpL x y)) ∧ w' = w := by
  have hrun : (Extern.BytealgCompare.compare #[.slice A n c, .slice B m d]).run Tryd.prog w = .ok (.int .i64 (cmpL x y)) w := by
    change Sem.run Tryd.prog (do pure (goInt (Extern.BytealgCompare.cmp (← Extern.Bytes.bytesOf (.slice A n c)) (← Extern.Bytes.bytesOf (.slice B m d))))) w = _
    rw [Sem.run_bind, run_bytesOf_rd w A n c x hx hr1 hA h1]
    simp only [Result.andThen_ok]
    rw [Sem.run_bind, run_bytesOf_rd w B m d y hy hr2 hB h2]
    simp only [Result.andThen_ok, Sem.run_pure]
    rw [Lib.cmp_eq, ← cmpL_bytes x y h1 h2]
    rfl
  have HR := Lib.hid hrun
  clear hrun
  go_enter Tryd.func68, Tryd.ntmps68
  go_wp2
  rw [run_callFunc_extern Tryd.func96 (by kernel_rfl) (by kernel_rfl) (by kernel_rfl) (e := Extern.BytealgCompare.compare) (by kernel_rfl), HR.out]
  simp only [Result.andThen]
  rw [Oper.upon_value]
  go_wp2
  go_ret
  exact ⟨rfl, rfl⟩
end Go.Proofs.YtgmeagkolahkoaaDoor

/- The walk of tallymanref1.Cmp. -/
namespace Go.Proofs.YtgmeagkolahkoaaDoor
open Go.RowKit

end Go.Proofs.YtgmeagkolahkoaaDoor

/- Layer 10: the walks of Sum.Cmp, Equal, Good; of the document's own Same, Has, Good. -/
namespace Go.Proofs.YtgmeagkolahkoaaDoor
open Go.RowKit

end Go.Proofs.YtgmeagkolahkoaaDoor

/- Layer 10: the walks of Equal, Same; of the document's own Same, Has. -/
namespace Go.Proofs.YtgmeagkolahkoaaDoor
open Go.RowKit

theorem mem_get {L : List Sm} {x : Sm} : x ∈ L ↔ ∃ j, j < L.length ∧ L.getD j default = x := by
  constructor
  · intro h
    obtain ⟨j, hj, rfl⟩ := List.getElem_of_mem h
    exact ⟨j, hj, by simp [List.getD, List.getElem?_eq_getElem hj]⟩
  · rintro ⟨j, hj, rfl⟩
    simp only [List.getD, List.getElem?_eq_getElem hj, Option.getD_some]
    exact List.getElem_mem hj
end Go.Proofs.YtgmeagkolahkoaaDoor

/- Layer 10: the walks of Clone, Grow, Concat. -/
namespace Go.Proofs.YtgmeagkolahkoaaDoor
open Go.RowKit

set_option maxRecDepth 100000 in
theorem cloneS_ty (L : List Sm) (hL : L.length ≤ 1000000) : FnSeg1 Tryd.prog 36 (Ty.sums 25 L) 25 32 L.length (flat L) := by
  refine ⟨fun args w => by kernel_rfl, fun w v hv => ?_⟩
  have hv' := hv
  obtain ⟨A, c, rfl, hnc, hcm, hA, hr⟩ := hv'
  refine enter_ty 8 [Ty.ex (.slice A L.length c)] Tryd.func36 rfl (by kernel_rfl) ⟨rfl, trivial⟩ fun a hF => ?_
  have hB := Below.refl w.heap.size w
  repeat with_reducible refine wp_seq ?_
  refine' reg_all hF ?_ mixed (by kernel_rfl) ?_
  rotate_left
  · repeat (first | exact Line.nil | ((refine' Line.cons rfl (.run rfl rfl ?_) ?_); (any_goals exact cAssign rfl rfl); rotate_left))
  intro a w1 hF hb hN
  have hBs := hB.size
  replace hB := hB.trans (hb.mono hB.size)
  dsimp only [ext, Option.getD] at hF
  repeat with_reducible first | refine wp_seq ?_ | refine nThen ?_
  refine' reg_all hF ?_ mixed (by kernel_rfl) ?_
  rotate_left
  · repeat (first | exact Line.nil | ((refine' Line.cons rfl (.run rfl rfl ?_) ?_); (any_goals (first | exact cEqlNil rfl rfl Tryd.underlying33 | exact cMove rfl rfl)); rotate_left))
  intro a w2 hF hb hN
  have hBs := hB.size
  replace hB := hB.trans (hb.mono hB.size)
  dsimp only [ext, Option.getD] at hF
  repeat with_reducible refine nThen ?_
  refine cond_ty hF rfl (fun h0 => ?_) (fun h1 => ?_)
  · have h0 : A = none := by cases A <;> simp at h0 ⊢
    have hl : L = [] := List.eq_nil_of_length_eq_zero (hA h0).1
    subst hl
    repeat with_reducible refine wp_seq ?_
    refine' reg_all hF ?_ mixed (by kernel_rfl) ?_
    rotate_left
    · repeat (first | exact Line.nil | ((refine' Line.cons rfl (.run rfl rfl ?_) ?_); (any_goals exact cAssign rfl rfl); rotate_left))
    intro a w3 hF hb hN
    have hBs := hB.size
    replace hB := hB.trans (hb.mono hB.size)
    dsimp only [ext, Option.getD] at hF
    repeat with_reducible first | refine nThen ?_ | refine wp_ret ?_ | refine rThen ?_
    refine ret1 hF rfl rfl fun z hz => ?_
    have hz : z = .slice none 0 0 := hz
    subst hz
    exact ⟨_, rfl, ⟨[], Seg.nil _ _ _, by simp⟩, hB⟩
  · repeat with_reducible first | refine wp_seq ?_ | refine nThen ?_ | refine wp_skip ?_
    refine' region_ty 2 mixed (by kernel_rfl) hF ?_ ?_
    rotate_left
    · simp only [List.take_succ_cons, List.take_zero]
      repeat (first | exact Line.nil | ((refine' Line.cons rfl (.run rfl rfl ?_) ?_); (any_goals (first | exact cBuild0 rfl Tryd.underlying33 infoS | exact cMove rfl rfl)); rotate_left))
    intro a w3 hF hb hN
    have hBs := hB.size
    replace hB := hB.trans (hb.mono hB.size)
    simp only [List.take_succ_cons, List.take_zero, List.drop_succ_cons, List.drop_zero] at hF hN ⊢
    dsimp only [ext, Option.getD] at hF
    obtain ⟨u, ⟨S, hseg, hS⟩, hF⟩ := hF.open (s := 5) rfl
    refine tlAppend (Δ := []) hF rfl rfl rfl rfl Tryd.underlying33 infoS zero32_size rfl hseg (.l (v := .slice A L.length c) rfl ((Ty.sums 25 L).below hv hB)) sl_news (flat_len _) flat_one' (by simp [maxLen]; omega) (by simp; omega) hF.nil rfl ?_
    intro a w4 u' S' hF hseg' hk2 hS'
    have hbS : ∀ y ∈ S', w.heap.size ≤ y := own_next hB (fun y hy => Nat.le_trans hBs (hS y hy)) hS'
    replace hB := below_own hB hk2 (fun y hy => Nat.le_trans hBs (hS y hy))
    refine' tlOp hF rfl rfl rfl ?_ ?_
    rotate_left
    · exact cAssign rfl rfl
    intro a w5 hF hb
    have hBs := hB.size
    replace hB := hB.trans (hb.mono hB.size)
    try (refine wpList_nil ?_)
    repeat with_reducible first | refine nThen ?_ | refine wp_ret ?_
    refine ret1 hF rfl rfl fun z hz => ?_
    have hz : z = u' := hz
    subst hz
    rw [Nat.zero_add, List.nil_append] at hseg'
    exact ⟨_, rfl, ⟨S', hseg'.below hb, hbS⟩, hB⟩
theorem zeroS_one : ∀ u ∈ (Value.agg (u8s (List.replicate 32 0))).cells.toList, u.oneCell' = true := by
  intro u hu
  have h : u ∈ (u8s (List.replicate 32 0)).toList := hu
  rw [u8s_list] at h
  obtain ⟨b, _, rfl⟩ := List.mem_map.1 h
  rfl
end Go.Proofs.YtgmeagkolahkoaaDoor

/- Layer 15 by types: rows of cells, tables; Clone; Good, New. -/
namespace Go.Proofs.YtgmeagkolahkoaaDoor
open Go.RowKit

/-! ### Rows of cells -/
abbrev Ty.cls (e : TypeId) (L : List Cl) : Ty := Ty.sl e L.length (flatC L)
theorem cIndexCl {P : Program} {w0 : World} {Γ : Ctx} {o : Oper} {t e : TypeId} {x ix : Operand} {k : Nat} {kd : IntKind} {L : List Cl} (ho : o.op = .indexAddr t x ix) (hx : Has w0 Γ x (Ty.cls e L)) (hi : OpT Γ ix (Ty.ex (.int kd (k : Int)))) (hu : P.underlying t = some (.slice e)) (hz : (P.info? e).map (·.size) = some 65) (hk : k < L.length) : OpOk P w0 Γ o (Ty.at_ e (L.getD k default).enc) := by
  have h := cIndexS (P := P) ho hx hi hu hz hk (by rw [flatC_len]; omega)
  rw [flatC_at L hk] at h
  exact h.conv at_pre
theorem zero65_cells : (Value.agg Cl.zero.a).cells.size = 65 := Cl.zero.size
/-- make([]Cell, n) -/
theorem made_cells (n : Nat) : (madeCells (Value.agg Cl.zero.a).cells (n * 65)).toList = flatC (tzero n) := by
  apply List.ext_getElem?
  intro j
  have hz : (Value.agg Cl.zero.a).cells = Cl.zero.enc.toArray := rfl
  rw [hz]
  unfold madeCells
  by_cases hj : j < n * 65
  · have h1 : (flatC (tzero n))[j]? = (flatC ((tzero n).drop (j / 65)))[j % 65]? := by
      rw [← flatC_drop, List.getElem?_drop]
      congr 1
      omega
    have h2 : j / 65 < n := by omega
    have h3 : (tzero n).drop (j / 65) = Cl.zero :: tzero (n - j / 65 - 1) := by
      unfold tzero
      rw [List.drop_replicate, show n - j / 65 = (n - j / 65 - 1) + 1 by omega, List.replicate_succ]
      rfl
    have h4 : flatC (Cl.zero :: tzero (n - j / 65 - 1)) = Cl.zero.enc ++ flatC (tzero (n - j / 65 - 1)) := rfl
    have hl : Cl.zero.enc.length = 65 := Cl.enc_len _
    have hm : j % 65 < 65 := Nat.mod_lt _ (by omega)
    rw [h1, h3, h4, List.getElem?_append_left (by omega)]
    simp [hj, hl, hm]
  · rw [List.getElem?_eq_none (by simp; omega), List.getElem?_eq_none (by rw [flatC_len, tzero_len]; omega)]
theorem run_makeCells {P : Program} {t e : TypeId} (n : Nat) (hn : n ≤ 1000000) (ht : P.underlying t = some (.slice e)) (hi : (P.info? e).map (fun i => (i.zero, i.size, i.bytes)) = some (some (.agg Cl.zero.a), 65, 72)) (w : World) :
    (Instr.makeSlice t (.int .i64 (n : Int)) (.int .i64 (n : Int))).run P w = .ok (.slice (some ⟨w.heap.size, 0, none⟩) n n) (w.alloc (.cells (flatC (tzero n)).toArray e)) := by
  obtain ⟨i, h1, h2, h3, h4⟩ := info_parts hi
  have h := run_make (P := P) w t e i _ ht h1 h2 .i64 .i64 (n : Int) (n : Int) (by omega) (Int.le_refl _) (by rw [h4]; omega) (by omega)
  rw [Int.toNat_natCast, h3] at h
  rw [h]
  congr 3
  exact Array.toList_inj.1 (by rw [made_cells])
theorem cMakeCells {P : Program} {w0 : World} {Γ : Ctx} {o : Oper} {t e : TypeId} {x y : Operand} {n : Nat} (ho : o.op = .makeSlice t x y) (hx : OpT Γ x (Ty.ex (.int .i64 (n : Int)))) (hy : OpT Γ y (Ty.ex (.int .i64 (n : Int)))) (ht : P.underlying t = some (.slice e)) (hi : (P.info? e).map (fun i => (i.zero, i.size, i.bytes)) = some (some (.agg Cl.zero.a), 65, 72)) (hn : n ≤ 1000000) : OpOk P w0 Γ o (Ty.seg w0 e 65 (tzero n).length (flatC (tzero n))) :=
  .new fun a w hb hs => by
    rw [tzero_len]
    obtain ⟨u, h1, h2⟩ := hs x _ (by simp [ho, Op.operands]) hx
    obtain ⟨u', h3, h4⟩ := hs y _ (by simp [ho, Op.operands]) hy
    have h2 : u = .int .i64 (n : Int) := h2
    have h4 : u' = .int .i64 (n : Int) := h4
    have hl : (flatC (tzero n)).length = n * 65 := by rw [flatC_len, tzero_len]
    refine ⟨.slice (some ⟨w.heap.size, 0, none⟩) n n, w.alloc (.cells (flatC (tzero n)).toArray e), ⟨[w.heap.size], ?_, fun y hy => ?_⟩, ((Keeps.refl [] w).alloc _).below, ?_⟩
    · have h := Seg.ofBlk (w := w.alloc (.cells (flatC (tzero n)).toArray e)) (sz := 65) (cap := n) (Blk.new w e (flatC (tzero n)).toArray) (by simpa using hl) (by simp [maxLen]; omega)
      simpa using h
    · simp only [List.mem_singleton] at hy
      subst hy
      exact hb.size
    · unfold execOp
      simp only [ho, h1, h2, h3, h4]
      rw [Sem.run_bind, run_makeCells n hn ht hi]
      rfl

/-! ### Tables -/
/-- A table that is read. -/
def Ty.tab (e : TypeId) (seed : Nat) (L : List Cl) : Ty := ⟨fun w v => ∃ s, v = .agg #[.int .u64 (seed : Int), s] ∧ SlP w e s L.length (flatC L), fun t => t == e, fun ⟨s, h1, h2⟩ k hA => ⟨s, h1, (Ty.cls e L).st h2 k hA⟩⟩
/-- A table whose cells are the call's own. -/
def Ty.tabO (w0 : World) (e : TypeId) (seed : Nat) (L : List Cl) : Ty := ⟨fun w v => ∃ s, v = .agg #[.int .u64 (seed : Int), s] ∧ (Ty.seg w0 e 65 L.length (flatC L)).p w s, fun t => t == e, fun ⟨s, h1, h2⟩ k hA => ⟨s, h1, (Ty.seg _ e 65 L.length (flatC L)).st h2 k hA⟩⟩
theorem tabO_tab {w0 : World} {e : TypeId} {seed : Nat} {L : List Cl} : ∀ w v, (Ty.tabO w0 e seed L).p w v → (Ty.tab e seed L).p w v := fun _ _ ⟨s, h1, h2⟩ => ⟨s, h1, seg_sl _ _ h2⟩
theorem tabO_old {w1 w2 : World} (hs : w1.heap.size ≤ w2.heap.size) {e : TypeId} {seed : Nat} {L : List Cl} : ∀ w v, (Ty.tabO w2 e seed L).p w v → (Ty.tabO w1 e seed L).p w v := fun _ _ ⟨s, h1, h2⟩ => ⟨s, h1, seg_old hs _ _ h2⟩
theorem cBoxTab {P : Program} {w0 : World} {Γ : Ctx} {o : Oper} {t : TypeId} {x : Operand} {u s : Value} (ho : o.op = .box t x) (hx : OpT Γ x (Ty.ex (.agg #[u, s]))) : OpOk P w0 Γ o (Ty.at_ t [u, s]) := cBox ho hx
theorem size_u64 : (Tryd.prog.info? 22).map (·.size) = some 1 := by kernel_rfl
section
variable {w0 : World} {Γ : Ctx} {o : Oper} {x : Operand} {e : TypeId} {u s : Value}
theorem size_row46 : (Tryd.prog.info? 36).map (·.size) = some 1 := by kernel_rfl
theorem sizeT46 : (Tryd.prog.info? 38).map (·.size) = some 2 := by kernel_rfl
theorem infoT46 : (Tryd.prog.info? 38).map (fun i => (i.zero, i.size, i.bytes)) = some (some (.agg #[.int .u64 0, .slice none 0 0]), 2, 32) := by kernel_rfl
theorem cFldS46 (ho : o.op = .fieldAddr 38 x 0) (hx : Has w0 Γ x (Ty.at_ e [u, s])) : OpOk Tryd.prog w0 Γ o (Ty.at_ e [u, s]) :=
  (cFieldE (P := Tryd.prog) ho hx Tryd.underlying38 rfl size_u64).conv fun _ _ h => h
theorem cFldL46 (ho : o.op = .fieldAddr 38 x 1) (hx : Has w0 Γ x (Ty.at_ e [u, s])) : OpOk Tryd.prog w0 Γ o (Ty.at_ e [s]) :=
  (cFieldE (P := Tryd.prog) ho hx Tryd.underlying38 rfl size_row46).conv fun _ _ h => h
theorem cRowOf46 (ho : o.op = .load 36 x) (hx : Has w0 Γ x (Ty.at_ e [s])) : OpOk Tryd.prog w0 Γ o (Ty.ex s) := cLoad1 ho hx (pts_at _ _) Tryd.underlying36 rfl
theorem cLoadT46 (ho : o.op = .load 38 x) (hx : Has w0 Γ x (Ty.at_ e [u, s])) : OpOk Tryd.prog w0 Γ o (Ty.ex (.agg #[u, s])) := cLoadAll (cs := #[u, s]) ho hx Tryd.underlying38 rfl sizeT46
theorem buildTA46 (n : Int) (A : Option Addr) (l c : Nat) (w : World) : (Instr.build 38 #[(0, .int .u64 n), (1, .slice A l c)]).run Tryd.prog w = .ok (.agg #[.int .u64 n, .slice A l c]) w := by
  have hz : (zeroValue 38).run Tryd.prog w = .ok (.agg #[.int .u64 0, .slice none 0 0]) w := by kernel_rfl
  have hu := run_underlying Tryd.underlying38 w
  have h1 := Tryd.sizeOf22 w
  simp only [Instr.build, Sem.run_bind, hz, Result.andThen_ok, hu]
  simp [h1, Instr.fill, Value.cells]
theorem buildT46 (n : Int) {s : Value} (hs : ∃ A l c, s = .slice A l c) (w : World) : (Instr.build 38 #[(0, .int .u64 n), (1, s)]).run Tryd.prog w = .ok (.agg #[.int .u64 n, s]) w := by
  obtain ⟨A, l, c, rfl⟩ := hs
  exact buildTA46 n A l c w
theorem buildT046 (w : World) : (Instr.build 38 #[]).run Tryd.prog w = .ok (.agg #[.int .u64 0, .slice none 0 0]) w := by kernel_rfl
theorem cLoadU64 (ho : o.op = .load 22 x) {xs : List Value} (hx : Has w0 Γ x (Ty.at_ e (u :: xs))) : OpOk Tryd.prog w0 Γ o (Ty.ex u) := cLoad1 ho hx (pts_at _ _) Tryd.underlying22 rfl
end
section
variable {P : Program} {w0 : World} {Γ : Ctx} {o : Oper}
/-- A call through a function value, of one argument. -/
theorem cCallV1 {f : FuncId} {ats : Array TypeId} {x0 x : Operand} {τ ρ : Ty} (ho : o.op = .call { callee := .value x0, args := #[x], argTypes := ats }) (h0 : OpT Γ x0 (Ty.ex (.func (.func f) #[] #[]))) (hx : Has w0 Γ x τ) (hc : Fn1 P f τ ρ) : OpOk P w0 Γ o ρ :=
  .call fun a w hb hs => by
    obtain ⟨v0, k1, k2⟩ := hs x0 _ (by simp [ho, Op.operands, Call.operands]) h0
    have k2 : v0 = .func (.func f) #[] #[] := k2
    obtain ⟨v, h1, h2⟩ := hx.see hs (by simp [ho, Op.operands, Call.operands]) hb
    refine ⟨f, #[v], ?_, hc.ret w v h2⟩
    rw [exec_goV a.eval ho (k1.trans k2)]
    simp only [List.map_toArray, List.map_cons, List.map_nil, h1, Array.append_empty]
    exact hc.en _ w
structure FnR2 (P : Program) (f : FuncId) (τ σ : Ty) (ρ : World → Ty) : Prop where
  en : Enters P f
  ret : ∀ w v u, τ.p w v → σ.p w u → Ret P f #[v, u] w (ρ w)
structure FnR3 (P : Program) (f : FuncId) (τ σ υ : Ty) (ρ : World → Ty) : Prop where
  en : Enters P f
  ret : ∀ w v u z, τ.p w v → σ.p w u → υ.p w z → Ret P f #[v, u, z] w (ρ w)
def Olds (ρ : World → Ty) : Prop := ∀ {w1 w2 : World}, w1.heap.size ≤ w2.heap.size → ∀ w v, (ρ w2).p w v → (ρ w1).p w v
theorem goodN_rng {n : Int} (h : goodN n = true) : ∃ N : Nat, n = (N : Int) ∧ 3 ≤ N ∧ N ≤ 1024 := by
  have := of_decide_eq_true h
  exact ⟨n.toNat, by omega, by omega, by omega⟩
theorem cCallR2 {f : FuncId} {ats : Array TypeId} {x y : Operand} {τ σ : Ty} {ρ : World → Ty} (ho : o.op = .call { callee := .value (.func f), args := #[x, y], argTypes := ats }) (hx : Has w0 Γ x τ) (hy : Has w0 Γ y σ) (hc : FnR2 P f τ σ ρ) (hρ : Olds ρ) : OpOk P w0 Γ o (ρ w0) :=
  .call fun a w hb hs => by
    obtain ⟨v, h1, h2⟩ := hx.see hs (by simp [ho, Op.operands, Call.operands]) hb
    obtain ⟨u, h3, h4⟩ := hy.see hs (by simp [ho, Op.operands, Call.operands]) hb
    refine ⟨f, #[v, u], ?_, (hc.ret w v u h2 h4).mono (hρ hb.size)⟩
    rw [exec_go a.eval ho rfl]
    simp only [List.map_toArray, List.map_cons, List.map_nil, h1, h3]
    exact hc.en _ w
theorem cCallR3 {f : FuncId} {ats : Array TypeId} {x y z : Operand} {τ σ υ : Ty} {ρ : World → Ty} (ho : o.op = .call { callee := .value (.func f), args := #[x, y, z], argTypes := ats }) (hx : Has w0 Γ x τ) (hy : Has w0 Γ y σ) (hz : Has w0 Γ z υ) (hc : FnR3 P f τ σ υ ρ) (hρ : Olds ρ) : OpOk P w0 Γ o (ρ w0) :=
  .call fun a w hb hs => by
    obtain ⟨v, h1, h2⟩ := hx.see hs (by simp [ho, Op.operands, Call.operands]) hb
    obtain ⟨u, h3, h4⟩ := hy.see hs (by simp [ho, Op.operands, Call.operands]) hb
    obtain ⟨q, h5, h6⟩ := hz.see hs (by simp [ho, Op.operands, Call.operands]) hb
    refine ⟨f, #[v, u, q], ?_, (hc.ret w v u q h2 h4 h6).mono (hρ hb.size)⟩
    rw [exec_go a.eval ho rfl]
    simp only [List.map_toArray, List.map_cons, List.map_nil, h1, h3, h5]
    exact hc.en _ w
/-- A table built out of a row of one's own. -/
theorem cBuildTabO {t e : TypeId} {x y : Operand} {seed : Nat} {L : List Cl} (ho : o.op = .build t #[(0, x), (1, y)]) (hx : OpT Γ x (Ty.ex (.int .u64 (seed : Int)))) (hy : OpT Γ y (Ty.seg w0 e 65 L.length (flatC L))) (hr : ∀ (s : Value), (∃ A l c, s = .slice A l c) → ∀ w : World, (Instr.build t #[(0, .int .u64 (seed : Int)), (1, s)]).run P w = .ok (.agg #[.int .u64 (seed : Int), s]) w) : OpOk P w0 Γ o (Ty.tabO w0 e seed L) :=
  .val fun a w _ hs => by
    obtain ⟨v, h1, h2⟩ := hs x _ (by simp [ho, Op.operands]) hx
    obtain ⟨s, h3, h4⟩ := hs y _ (by simp [ho, Op.operands]) hy
    have h2 : v = .int .u64 (seed : Int) := h2
    subst h2
    have hf : ∃ A l c, s = .slice A l c := by
      obtain ⟨A, c, h, _⟩ := (seg_sl _ _ h4).form
      exact ⟨A, _, c, h⟩
    refine ⟨_, ⟨s, rfl, h4⟩, ?_⟩
    unfold execOp
    simp only [ho]
    have e1 : ((#[(0, x), (1, y)] : Array (Nat × Operand)).map fun (i, x) => (i, a.eval x)) = #[(0, .int .u64 (seed : Int)), (1, s)] := by simp [h1, h3]
    rw [e1, Sem.run_bind, hr s hf w]
    rfl
end
set_option maxRecDepth 100000 in
theorem cloneC_ty (L : List Cl) (hL : L.length ≤ 1000000) : FnSeg1 Tryd.prog 48 (Ty.cls 27 L) 27 65 L.length (flatC L) := by
  refine ⟨fun args w => by kernel_rfl, fun w v hv => ?_⟩
  have hv' := hv
  obtain ⟨A, c, rfl, hnc, hcm, hA, hr⟩ := hv'
  refine enter_ty 8 [Ty.ex (.slice A L.length c)] Tryd.func48 rfl (by kernel_rfl) ⟨rfl, trivial⟩ fun a hF => ?_
  have hB := Below.refl w.heap.size w
  repeat with_reducible refine wp_seq ?_
  refine' reg_all hF ?_ mixed (by kernel_rfl) ?_
  rotate_left
  · repeat (first | exact Line.nil | ((refine' Line.cons rfl (.run rfl rfl ?_) ?_); (any_goals exact cAssign rfl rfl); rotate_left))
  intro a w1 hF hb hN
  have hBs := hB.size
  replace hB := hB.trans (hb.mono hB.size)
  dsimp only [ext, Option.getD] at hF
  repeat with_reducible first | refine wp_seq ?_ | refine nThen ?_
  refine' reg_all hF ?_ mixed (by kernel_rfl) ?_
  rotate_left
  · repeat (first | exact Line.nil | ((refine' Line.cons rfl (.run rfl rfl ?_) ?_); (any_goals (first | exact cMove rfl rfl | exact cEqlNil rfl rfl Tryd.underlying36)); rotate_left))
  intro a w2 hF hb hN
  have hBs := hB.size
  replace hB := hB.trans (hb.mono hB.size)
  dsimp only [ext, Option.getD] at hF
  repeat with_reducible refine nThen ?_
  refine cond_ty hF rfl (fun h0 => ?_) (fun h1 => ?_)
  · have h0 : A = none := by cases A <;> simp at h0 ⊢
    have hl : L = [] := List.eq_nil_of_length_eq_zero (hA h0).1
    subst hl
    repeat with_reducible refine wp_seq ?_
    refine' reg_all hF ?_ mixed (by kernel_rfl) ?_
    rotate_left
    · repeat (first | exact Line.nil | ((refine' Line.cons rfl (.run rfl rfl ?_) ?_); (any_goals exact cAssign rfl rfl); rotate_left))
    intro a w3 hF hb hN
    have hBs := hB.size
    replace hB := hB.trans (hb.mono hB.size)
    dsimp only [ext, Option.getD] at hF
    repeat with_reducible first | refine nThen ?_ | refine wp_ret ?_ | refine rThen ?_
    refine ret1 hF rfl rfl fun z hz => ?_
    have hz : z = .slice none 0 0 := hz
    subst hz
    exact ⟨_, rfl, ⟨[], Seg.nil _ _ _, by simp⟩, hB⟩
  · repeat with_reducible first | refine wp_seq ?_ | refine nThen ?_ | refine wp_skip ?_
    refine' region_ty 2 mixed (by kernel_rfl) hF ?_ ?_
    rotate_left
    · simp only [List.take_succ_cons, List.take_zero]
      repeat (first | exact Line.nil | ((refine' Line.cons rfl (.run rfl rfl ?_) ?_); (any_goals (first | exact cMove rfl rfl | exact cBuild0 rfl Tryd.underlying36 infoC34)); rotate_left))
    intro a w3 hF hb hN
    have hBs := hB.size
    replace hB := hB.trans (hb.mono hB.size)
    simp only [List.take_succ_cons, List.take_zero, List.drop_succ_cons, List.drop_zero] at hF hN ⊢
    dsimp only [ext, Option.getD] at hF
    obtain ⟨u, ⟨S, hseg, hS⟩, hF⟩ := hF.open (s := 5) rfl
    refine tlAppend (Δ := []) hF rfl rfl rfl rfl Tryd.underlying36 infoC34 zero65_cells rfl hseg (.l (v := .slice A L.length c) rfl ((Ty.cls 27 L).below hv hB)) sl_news (flatC_len _) flatC_one' (by simp [maxLen]; omega) (by omega) hF.nil rfl ?_
    intro a w4 u' S' hF hseg' hk2 hS'
    have hbS : ∀ y ∈ S', w.heap.size ≤ y := own_next hB (fun y hy => Nat.le_trans hBs (hS y hy)) hS'
    replace hB := below_own hB hk2 (fun y hy => Nat.le_trans hBs (hS y hy))
    refine' tlOp hF rfl rfl rfl ?_ ?_
    rotate_left
    · exact cAssign rfl rfl
    intro a w5 hF hb
    have hBs := hB.size
    replace hB := hB.trans (hb.mono hB.size)
    try (refine wpList_nil ?_)
    repeat with_reducible first | refine nThen ?_ | refine wp_ret ?_
    refine ret1 hF rfl rfl fun z hz => ?_
    have hz : z = u' := hz
    subst hz
    rw [Nat.zero_add, List.nil_append] at hseg'
    exact ⟨_, rfl, ⟨S', hseg'.below hb, hbS⟩, hB⟩
set_option maxRecDepth 100000 in
theorem tgood_ty (seed : Nat) (L : List Cl) : Fn1 Tryd.prog 47 (Ty.tab 27 seed L) (Ty.ex (.bool (goodN (L.length : Int)))) := by
  refine ⟨fun args w => by kernel_rfl, fun w v ⟨s, hv, hs⟩ => ?_⟩
  subst hv
  have hG := good14_ty (L.length : Int)
  refine enter_ty 7 [Ty.ex (.agg #[.int .u64 (seed : Int), s])] Tryd.func47 rfl (by kernel_rfl) ⟨rfl, trivial⟩ fun a hF => ?_
  have hB := Below.refl w.heap.size w
  repeat with_reducible refine wp_seq ?_
  refine' reg_all hF ?_ mixed (by kernel_rfl) ?_
  rotate_left
  · repeat (first | exact Line.nil | ((refine' Line.cons rfl (.run rfl rfl ?_) ?_); (any_goals (first | exact cAssign rfl rfl | exact cBoxTab rfl rfl)); rotate_left))
  intro a w1 hF hb hN
  have hBs := hB.size
  replace hB := hB.trans (hb.mono hB.size)
  dsimp only [ext, Option.getD] at hF
  repeat with_reducible first | refine wp_seq ?_ | refine nThen ?_
  have hs1 := (Ty.cls 27 L).below hs hB
  refine' reg_all hF ?_ mixed (by kernel_rfl) ?_
  rotate_left
  · repeat (first | exact Line.nil | ((refine' Line.cons rfl (.run rfl rfl ?_) ?_); (any_goals (first | exact cAssign rfl rfl | exact cFldL46 rfl (.t rfl) | exact cRowOf46 rfl (.t rfl) | exact cLenH rfl (.l rfl hs1) (Ty.sl_isSl _ _ _) Tryd.underlying36 | exact cCall1 rfl rfl hG)); rotate_left))
  intro a w2 hF hb hN
  have hBs := hB.size
  replace hB := hB.trans (hb.mono hB.size)
  dsimp only [ext, Option.getD] at hF
  repeat with_reducible first | refine nThen ?_ | refine wp_ret ?_
  refine ret1 hF rfl rfl fun z hz => ?_
  exact ⟨z, rfl, hz, hB⟩
/-- New cells, or none. -/
def newL (n : Int) : List Cl := if goodN n then tzero n.toNat else []
def newS (seed : Nat) (n : Int) : Nat := if goodN n then seed else 0
def newE (n : Int) : Value := .int .i64 (if goodN n then 0 else 1)
/-- A table with an error's number. -/
def Ty.tabE (w0 : World) (e : TypeId) (seed : Nat) (L : List Cl) (err : Value) : Ty := ⟨fun w v => ∃ u, v = .tuple #[u, err] ∧ (Ty.tabO w0 e seed L).p w u, fun t => t == e, fun ⟨u, h1, h2⟩ k hA => ⟨u, h1, (Ty.tabO _ e seed L).st h2 k hA⟩⟩
theorem tabE_old {w1 w2 : World} (hs : w1.heap.size ≤ w2.heap.size) {e : TypeId} {seed : Nat} {L : List Cl} {err : Value} : ∀ w v, (Ty.tabE w2 e seed L err).p w v → (Ty.tabE w1 e seed L err).p w v := fun _ _ ⟨u, h1, h2⟩ => ⟨u, h1, tabO_old hs _ _ h2⟩
theorem tabE_olds (e : TypeId) (seed : Nat) (L : List Cl) (err : Value) : Olds fun w => Ty.tabE w e seed L err := fun hs _ _ h => tabE_old hs _ _ h
end Go.Proofs.YtgmeagkolahkoaaDoor

/- Layer 15 by types: New, Zero. -/
namespace Go.Proofs.YtgmeagkolahkoaaDoor
open Go.RowKit

theorem tabCells (seed : Nat) (A : Option Addr) (l c : Nat) : (Value.agg #[.int .u64 (seed : Int), .slice A l c]).cells.all (·.oneCell') = true := by simp [Value.cells, Value.oneCell']
theorem sl_one {w : World} {e : TypeId} {v : Value} {n : Nat} {xs : List Value} (h : SlP w e v n xs) (seed : Nat) : (Value.agg #[.int .u64 (seed : Int), v]).cells.all (·.oneCell') = true := by
  obtain ⟨A, c, rfl, _⟩ := h
  exact tabCells seed A n c
theorem sl_isA {w : World} {e : TypeId} {v : Value} {n : Nat} {xs : List Value} (h : SlP w e v n xs) : ∃ A l c, v = .slice A l c := by
  obtain ⟨A, c, rfl, _⟩ := h
  exact ⟨A, n, c, rfl⟩
/-- A row's blocks are other ones than a variable of another type. -/
theorem seg_far {w : World} {e t : TypeId} {sz n g : Nat} {v : Value} {xs : List Value} {S : List Nat} {cs : Array Value} (h : Seg w e sz v n xs S) (hb : Blk w g t cs) (hne : (t == e) = false) : ∀ y ∈ S, y ∉ [g] := fun y hy hm => by
  simp only [List.mem_singleton] at hm
  subst hm
  obtain ⟨cs', fr, h1⟩ := h.blocks y hy hb.lt
  unfold Blk at hb
  rw [hb] at h1
  simp only [Option.some.injEq, Obj.cells.injEq] at h1
  rw [h1.2.1] at hne
  simp at hne
abbrev zeroT : Array Value := #[.int .u64 0, .slice none 0 0]
set_option maxRecDepth 100000 in
theorem tnew_ty (seed : Nat) (n : Int) : FnR2 Tryd.prog 16 (Ty.ex (.int .u64 (seed : Int))) (Ty.ex (.int .i64 n)) (fun w => Ty.tabE w 27 (newS seed n) (newL n) (newE n)) := by
  refine ⟨fun args w => by kernel_rfl, fun w v u hv hu => ?_⟩
  have hg := good14_ty n
  by_cases hgn : goodN n = true
  rotate_left
  · have hgn : goodN n = false := by simpa using hgn
    rw [hgn] at hg
    have e1 : newS seed n = 0 := by unfold newS; rw [hgn]; rfl
    have e2 : newL n = [] := by unfold newL; rw [hgn]; rfl
    have e3 : newE n = .int .i64 1 := by unfold newE; rw [hgn]; rfl
    rw [e1, e2, e3]
    refine enter_ty 14 [Ty.ex (.int .u64 (seed : Int)), Ty.ex (.int .i64 n)] Tryd.func16 rfl (by kernel_rfl) ⟨hv, hu, trivial⟩ fun a hF => ?_
    have hB := Below.refl w.heap.size w
    repeat with_reducible refine wp_seq ?_
    refine' reg_all hF ?_ mixed (by kernel_rfl) ?_
    rotate_left
    · repeat (first
          | exact Line.nil
          | (refine' Line.cons rfl (.new rfl rfl (run_alloc_i infoT46) rfl) ?_; rotate_left)
          | ((refine' Line.cons rfl (.run rfl rfl ?_) ?_)
             any_goals exact cAssign rfl rfl
             rotate_left))
    intro a w1 hF hb hN
    have hBs := hB.size
    replace hB := hB.trans (hb.mono hB.size)
    dsimp only [ext, Option.getD] at hF
    repeat with_reducible first | refine wp_seq ?_ | refine nThen ?_
    obtain ⟨z, ⟨gx, rfl, hgx, hbx⟩, hF⟩ := hF.open (s := 4) rfl
    refine' reg_all hF ?_ mixed (by kernel_rfl) ?_
    rotate_left
    · repeat (first | exact Line.nil | ((refine' Line.cons rfl (.run rfl rfl ?_) ?_); (any_goals (first | exact cMove rfl rfl | exact cNot rfl rfl | exact cCall1 rfl rfl hg)); rotate_left))
    intro a w2 hF hb hN
    have hBs := hB.size
    replace hB := hB.trans (hb.mono hB.size)
    dsimp only [ext, Option.getD] at hF
    repeat with_reducible refine nThen ?_
    replace hbx := hbx.below hb
    refine cond_t hF rfl ?_
    repeat with_reducible refine wp_seq ?_
    refine' region_ty 1 mixed (by kernel_rfl) hF ?_ ?_
    rotate_left
    · simp only [List.take_succ_cons, List.take_zero]
      repeat (first | exact Line.nil | ((refine' Line.cons rfl (.run rfl rfl ?_) ?_); (any_goals exact cBuildE rfl (fun w => buildT046 w)); rotate_left))
    intro a w3 hF hb hN
    have hBs := hB.size
    replace hB := hB.trans (hb.mono hB.size)
    simp only [List.take_succ_cons, List.take_zero, List.drop_succ_cons, List.drop_zero] at hF hN ⊢
    dsimp only [ext, Option.getD] at hF
    replace hbx := hbx.below hb
    refine tlStoreV (Δ := [(4, Ty.ex (.pointer (some ⟨gx, 0, none⟩)))]) hF rfl rfl rfl rfl (hF.getEx (s := 9) rfl) hbx rfl sizeT46 (tabCells 0 _ _ _) (hF.keep [4]) rfl ?_
    intro w4 hF hbx hkx
    replace hB := below_own hB hkx (by intro y hy; simp only [List.mem_singleton] at hy; omega)
    refine' tlOp hF rfl rfl rfl ?_ ?_
    rotate_left
    · exact cAssign rfl rfl
    intro a w5 hF hb
    have hBs := hB.size
    replace hB := hB.trans (hb.mono hB.size)
    try (refine wpList_nil ?_)
    repeat with_reducible first | refine nThen ?_ | refine wp_ret ?_ | refine rThen ?_
    replace hbx := hbx.below hb
    refine retCell2 hF rfl rfl rfl hbx Tryd.underlying38 rfl sizeT46 ?_
    exact ⟨_, rfl, ⟨_, rfl, _, rfl, [], Seg.nil _ _ _, by simp⟩, hB⟩
  obtain ⟨N, rfl, hN1, hN2⟩ := goodN_rng hgn
  rw [hgn] at hg
  have e1 : newS seed (N : Int) = seed := by unfold newS; rw [hgn]; rfl
  have e2 : newL (N : Int) = tzero N := by unfold newL; rw [hgn, Int.toNat_natCast]; rfl
  have e3 : newE (N : Int) = .int .i64 0 := by unfold newE; rw [hgn]; rfl
  rw [e1, e2, e3]
  refine enter_ty 14 [Ty.ex (.int .u64 (seed : Int)), Ty.ex (.int .i64 (N : Int))] Tryd.func16 rfl (by kernel_rfl) ⟨hv, hu, trivial⟩ fun a hF => ?_
  have hB := Below.refl w.heap.size w
  repeat with_reducible refine wp_seq ?_
  refine' reg_all hF ?_ mixed (by kernel_rfl) ?_
  rotate_left
  · repeat (first
        | exact Line.nil
        | (refine' Line.cons rfl (.new rfl rfl (run_alloc_i infoT46) rfl) ?_; rotate_left)
        | ((refine' Line.cons rfl (.run rfl rfl ?_) ?_)
           any_goals exact cAssign rfl rfl
           rotate_left))
  intro a w1 hF hb hN
  have hBs := hB.size
  replace hB := hB.trans (hb.mono hB.size)
  dsimp only [ext, Option.getD] at hF
  repeat with_reducible first | refine wp_seq ?_ | refine nThen ?_
  obtain ⟨z, ⟨gx, rfl, hgx, hbx⟩, hF⟩ := hF.open (s := 4) rfl
  refine' reg_all hF ?_ mixed (by kernel_rfl) ?_
  rotate_left
  · repeat (first | exact Line.nil | ((refine' Line.cons rfl (.run rfl rfl ?_) ?_); (any_goals (first | exact cMove rfl rfl | exact cNot rfl rfl | exact cCall1 rfl rfl hg)); rotate_left))
  intro a w2 hF hb hN
  have hBs := hB.size
  replace hB := hB.trans (hb.mono hB.size)
  dsimp only [ext, Option.getD] at hF
  repeat with_reducible refine nThen ?_
  replace hbx := hbx.below hb
  refine cond_f hF rfl ?_
  repeat with_reducible first | refine wp_seq ?_ | refine nThen ?_ | refine wp_skip ?_
  have hw2 := hB.size
  refine' region_ty 4 mixed (by kernel_rfl) hF ?_ ?_
  rotate_left
  · simp only [List.take_succ_cons, List.take_zero]
    repeat (first | exact Line.nil | ((refine' Line.cons rfl (.run rfl rfl ?_) ?_); (any_goals (first | exact cMove rfl rfl | exact cMakeCells (n := N) rfl rfl rfl Tryd.underlying36 infoC34 (by omega) | exact cBuildTabO (L := tzero N) rfl rfl rfl (fun s hs w => buildT46 _ hs w))); rotate_left))
  intro a w3 hF hb hN
  have hBs := hB.size
  replace hB := hB.trans (hb.mono hB.size)
  simp only [List.take_succ_cons, List.take_zero, List.drop_succ_cons, List.drop_zero] at hF hN ⊢
  dsimp only [ext, Option.getD] at hF
  replace hbx := hbx.below hb
  have hgx2 := hbx.lt
  obtain ⟨z, ⟨s, rfl, S, hs, hS⟩, hF⟩ := hF.open (s := 13) rfl
  refine tlStoreV (Δ := [(4, Ty.ex (.pointer (some ⟨gx, 0, none⟩)))]) hF rfl rfl rfl rfl (hF.getEx (s := 13) rfl) hbx rfl sizeT46 (sl_one hs.sl _) (hF.keep [4]) rfl ?_
  intro w4 hF hbx' hkx
  replace hB := below_own hB hkx (by intro y hy; simp only [List.mem_singleton] at hy; omega)
  replace hs := hs.keeps hkx (seg_far hs hbx (by decide))
  refine' tlOp hF rfl rfl rfl ?_ ?_
  rotate_left
  · exact cAssign rfl rfl
  intro a w5 hF hb
  have hBs := hB.size
  replace hB := hB.trans (hb.mono hB.size)
  try (refine wpList_nil ?_)
  repeat with_reducible first | refine nThen ?_ | refine wp_ret ?_
  refine retCell2 hF rfl rfl rfl (hbx'.below hb) Tryd.underlying38 rfl sizeT46 ?_
  exact ⟨_, rfl, ⟨_, rfl, s, rfl, S, hs.below hb, fun y hy => Nat.le_trans hw2 (hS y hy)⟩, hB⟩
end Go.Proofs.YtgmeagkolahkoaaDoor

/- Layer 15 by types: Minus. -/
namespace Go.Proofs.YtgmeagkolahkoaaDoor
open Go.RowKit

/-- May one be taken from the other? -/
def minOk (sa sb : Nat) (A B : List Cl) : Bool := goodN (A.length : Int) && (decide (A.length = B.length) && decide (sa = sb))
def minL (sa sb : Nat) (A B : List Cl) : List Cl := if minOk sa sb A B then tminus A B else []
def minS (sa sb : Nat) (A B : List Cl) : Nat := if minOk sa sb A B then sa else 0
def minE (sa sb : Nat) (A B : List Cl) : Value := .int .i64 (if minOk sa sb A B then 0 else 1)
/-- A less B in the first i cells. -/
def mixM (A B : List Cl) (i : Nat) : List Cl := (tminus A B).take i ++ A.drop i
theorem mixM_len {A B : List Cl} (h : A.length = B.length) (i : Nat) : (mixM A B i).length = A.length := by
  unfold mixM
  rw [List.length_append, List.length_take, List.length_drop, tminus_len h]
  omega
theorem mixM_get {A B : List Cl} (h : A.length = B.length) {i : Nat} (hi : i < A.length) : (mixM A B i).getD i default = A.getD i default := by
  unfold mixM
  have hl : ((tminus A B).take i).length = i := by rw [List.length_take, tminus_len h]; omega
  simp only [List.getD]
  rw [List.getElem?_append_right (by omega), hl, Nat.sub_self, List.getElem?_drop]
  rfl
theorem mixM_set {A B : List Cl} (h : A.length = B.length) {i : Nat} (hi : i < A.length) : (mixM A B i).set i ((A.getD i default).minus (B.getD i default)) = mixM A B (i + 1) := by
  apply list_extD
  · rw [List.length_set, mixM_len h, mixM_len h]
  · intro j hj
    rw [List.length_set, mixM_len h] at hj
    have hm : ∀ k, j < k → k ≤ A.length → (mixM A B k).getD j default = (tminus A B).getD j default := fun k hk hkl => by
      unfold mixM
      simp only [List.getD]
      rw [List.getElem?_append_left (by rw [List.length_take, tminus_len h]; omega), List.getElem?_take, if_pos hk]
    have ha : ∀ k, k ≤ j → (mixM A B k).getD j default = A.getD j default := fun k hk => by
      unfold mixM
      have hl : ((tminus A B).take k).length = k := by rw [List.length_take, tminus_len h]; omega
      simp only [List.getD]
      rw [List.getElem?_append_right (by omega), hl, List.getElem?_drop]
      congr 2
      omega
    rw [getD_set_eq _ _ (by rw [mixM_len h]; exact hj)]
    by_cases hij : i = j
    · subst hij
      rw [if_pos rfl, hm (i + 1) (by omega) (by omega), tminus_get h hj]
    · rw [if_neg hij]
      by_cases hji : j < i
      · rw [hm i hji (by omega), hm (i + 1) (by omega) (by omega)]
      · rw [ha i (by omega), ha (i + 1) (by omega)]
theorem mixM_zero (A B : List Cl) : mixM A B 0 = A := by simp [mixM]
theorem mixM_all {A B : List Cl} (h : A.length = B.length) : mixM A B A.length = tminus A B := by
  unfold mixM
  rw [List.take_of_length_le (by rw [tminus_len h]; exact Nat.le_refl _), List.drop_of_length_le (Nat.le_refl _), List.append_nil]
set_option maxRecDepth 100000 in
set_option maxHeartbeats 2000000 in
theorem tminus_ty (sa sb : Nat) (A B : List Cl) : FnR2 Tryd.prog 25 (Ty.tab 27 sa A) (Ty.tab 27 sb B) (fun w => Ty.tabE w 27 (minS sa sb A B) (minL sa sb A B) (minE sa sb A B)) := by
  refine ⟨fun args w => by kernel_rfl, fun w v u ⟨s, hv, hs⟩ ⟨s2, hu, hs2⟩ => ?_⟩
  subst hv hu
  have hG := tgood_ty sa A
  refine enter_ty 56 [Ty.ex (.agg #[.int .u64 (sa : Int), s]), Ty.ex (.agg #[.int .u64 (sb : Int), s2])] Tryd.func25 rfl (by kernel_rfl) ⟨rfl, rfl, trivial⟩ fun a hF => ?_
  have hB := Below.refl w.heap.size w
  let TA := Ty.cls 27 A
  let TB := Ty.cls 27 B
  repeat with_reducible refine wp_seq ?_
  refine' reg_all hF ?_ mixed (by kernel_rfl) ?_
  rotate_left
  · repeat (first
        | exact Line.nil
        | (refine' Line.cons rfl (.new rfl rfl (run_alloc_i infoT46) rfl) ?_; rotate_left)
        | ((refine' Line.cons rfl (.run rfl rfl ?_) ?_)
           any_goals (first | exact cAssign rfl rfl | exact cBoxTab rfl rfl)
           rotate_left))
  intro a w1 hF hb hN
  have hBs := hB.size
  replace hB := hB.trans (hb.mono hB.size)
  dsimp only [ext, Option.getD] at hF
  repeat with_reducible first | refine wp_seq ?_ | refine nThen ?_
  obtain ⟨z, ⟨g4, rfl, hg4, hb4⟩, hF⟩ := hF.open (s := 4) rfl
  have hs1 := TA.below hs hB
  have hs21 := TB.below hs2 hB
  have ht1 : (Ty.tab 27 sa A).p w1 (.agg #[.int .u64 (sa : Int), s]) := ⟨s, rfl, hs1⟩
  refine wp_mono (Q := fun e a w' => e = .normal ∧ Fr 56 [(2, Ty.at_ 38 [.int .u64 (sa : Int), s]), (3, Ty.at_ 38 [.int .u64 (sb : Int), s2]), (4, Ty.ex (.pointer (some ⟨g4, 0, none⟩))), (27, Ty.ex (.bool (!minOk sa sb A B)))] a w' ∧ Below w.heap.size w w' ∧ Blk w' g4 38 zeroT) ?_ ?_
  · unfold minOk
    by_cases h1 : goodN (A.length : Int) = true
    · rw [h1] at hG
      by_cases h2 : A.length = B.length
      · have e2 : (!decide ((A.length : Int) = (B.length : Int))) = false := by rw [decide_eq_true (by omega)]; rfl
        have e3 : (!decide ((sa : Int) = (sb : Int))) = !(goodN (A.length : Int) && (decide (A.length = B.length) && decide (sa = sb))) := by
          rw [h1, decide_eq_true h2, Bool.true_and, Bool.true_and, show decide ((sa : Int) = (sb : Int)) = decide (sa = sb) from decide_eq_decide.2 (by omega)]
        refine' reg_all hF ?_ mixed (by kernel_rfl) ?_
        rotate_left
        · repeat (first | exact Line.nil | ((first | refine' Line.cons rfl (.run rfl rfl ?_) ?_ | refine' Line.cons rfl (.yes rfl rfl rfl rfl ?_) ?_); (any_goals (first | exact cMove rfl rfl | exact cNot rfl rfl | exact cLoadT46 rfl (.t rfl) | exact cCallH1 rfl (.l rfl ht1) hG | exact cFldL46 rfl (.t rfl) | exact cRowOf46 rfl (.t rfl) | exact cLenH rfl (.l rfl hs1) (Ty.sl_isSl _ _ _) Tryd.underlying36 | exact cLenH rfl (.l rfl hs21) (Ty.sl_isSl _ _ _) Tryd.underlying36 | exact cFldS46 rfl (.t rfl) | exact cLoadU64 rfl (.t rfl) | exact OpOk.b (cNeq rfl rfl rfl) e2 | exact OpOk.b (cNeq rfl rfl rfl) e3 | exact cPickF rfl rfl rfl)); rotate_left))
        intro a w2 hF hb hN
        have hBs := hB.size
        replace hB := hB.trans (hb.mono hB.size)
        dsimp only [ext, Option.getD] at hF
        exact ⟨rfl, hF.keep [2, 3, 4, 27], hB, hb4.below hb⟩
      · have e2 : (!decide ((A.length : Int) = (B.length : Int))) = true := by rw [decide_eq_false (by omega)]; rfl
        have e3 : (!(goodN (A.length : Int) && (decide (A.length = B.length) && decide (sa = sb)))) = true := by rw [decide_eq_false h2, Bool.false_and, Bool.and_false]; rfl
        rw [e3]
        refine' reg_all hF ?_ mixed (by kernel_rfl) ?_
        rotate_left
        · repeat (first | exact Line.nil | (refine' Line.cons rfl (.no rfl rfl rfl rfl rfl rfl) ?_; rotate_left) | ((first | refine' Line.cons rfl (.run rfl rfl ?_) ?_ | refine' Line.cons rfl (.yes rfl rfl rfl rfl ?_) ?_); (any_goals (first | exact cMove rfl rfl | exact cNot rfl rfl | exact cLoadT46 rfl (.t rfl) | exact cCallH1 rfl (.l rfl ht1) hG | exact cFldL46 rfl (.t rfl) | exact cRowOf46 rfl (.t rfl) | exact cLenH rfl (.l rfl hs1) (Ty.sl_isSl _ _ _) Tryd.underlying36 | exact cLenH rfl (.l rfl hs21) (Ty.sl_isSl _ _ _) Tryd.underlying36 | exact OpOk.b (cNeq rfl rfl rfl) e2 | exact cPickT rfl rfl rfl | exact cPickF rfl rfl rfl)); rotate_left))
        intro a w2 hF hb hN
        have hBs := hB.size
        replace hB := hB.trans (hb.mono hB.size)
        dsimp only [ext, Option.getD] at hF
        exact ⟨rfl, hF.keep [2, 3, 4, 27], hB, hb4.below hb⟩
    · have h1 : goodN (A.length : Int) = false := by simpa using h1
      rw [h1] at hG ⊢
      refine' reg_all hF ?_ mixed (by kernel_rfl) ?_
      rotate_left
      · repeat (first | exact Line.nil | (refine' Line.cons rfl (.no rfl rfl rfl rfl rfl rfl) ?_; rotate_left) | ((refine' Line.cons rfl (.run rfl rfl ?_) ?_); (any_goals (first | exact cMove rfl rfl | exact cNot rfl rfl | exact cLoadT46 rfl (.t rfl) | exact cCallH1 rfl (.l rfl ht1) hG | exact cPickT rfl rfl rfl)); rotate_left))
      intro a w2 hF hb hN
      have hBs := hB.size
      replace hB := hB.trans (hb.mono hB.size)
      dsimp only [ext, Option.getD] at hF
      exact ⟨rfl, hF.keep [2, 3, 4, 27], hB, hb4.below hb⟩
  clear hF hB hb4 hs1 hs21 ht1
  rintro e a w2 ⟨rfl, hF, hB, hb4⟩
  repeat with_reducible refine nThen ?_
  by_cases hok : minOk sa sb A B = true
  rotate_left
  · have hok : minOk sa sb A B = false := by simpa using hok
    have e1 : minS sa sb A B = 0 := by unfold minS; rw [hok]; rfl
    have e2 : minL sa sb A B = [] := by unfold minL; rw [hok]; rfl
    have e3 : minE sa sb A B = .int .i64 1 := by unfold minE; rw [hok]; rfl
    rw [hok] at hF
    rw [e1, e2, e3]
    refine cond_t hF rfl ?_
    repeat with_reducible refine wp_seq ?_
    refine' region_ty 1 mixed (by kernel_rfl) hF ?_ ?_
    rotate_left
    · simp only [List.take_succ_cons, List.take_zero]
      repeat (first | exact Line.nil | ((refine' Line.cons rfl (.run rfl rfl ?_) ?_); (any_goals exact cBuildE rfl (fun w => buildT046 w)); rotate_left))
    intro a w3 hF hb hN
    have hBs := hB.size
    replace hB := hB.trans (hb.mono hB.size)
    simp only [List.take_succ_cons, List.take_zero, List.drop_succ_cons, List.drop_zero] at hF hN ⊢
    dsimp only [ext, Option.getD] at hF
    replace hb4 := hb4.below hb
    refine tlStoreV (Δ := [(4, Ty.ex (.pointer (some ⟨g4, 0, none⟩)))]) hF rfl rfl rfl rfl (hF.getEx (s := 28) rfl) hb4 rfl sizeT46 (tabCells 0 _ _ _) (hF.keep [4]) rfl ?_
    intro w4 hF hb4 hkx
    replace hB := below_own hB hkx (by intro y hy; simp only [List.mem_singleton] at hy; omega)
    refine' tlOp hF rfl rfl rfl ?_ ?_
    rotate_left
    · exact cAssign rfl rfl
    intro a w5 hF hb
    have hBs := hB.size
    replace hB := hB.trans (hb.mono hB.size)
    try (refine wpList_nil ?_)
    repeat with_reducible first | refine nThen ?_ | refine wp_ret ?_ | refine rThen ?_
    replace hb4 := hb4.below hb
    refine retCell2 hF rfl rfl rfl hb4 Tryd.underlying38 rfl sizeT46 ?_
    exact ⟨_, rfl, ⟨_, rfl, _, rfl, [], Seg.nil _ _ _, by simp⟩, hB⟩
  have e1 : minS sa sb A B = sa := by unfold minS; rw [hok]; rfl
  have e2 : minL sa sb A B = tminus A B := by unfold minL; rw [hok]; rfl
  have e3 : minE sa sb A B = .int .i64 0 := by unfold minE; rw [hok]; rfl
  rw [hok] at hF
  rw [e1, e2, e3]
  clear e1 e2 e3
  unfold minOk at hok
  simp only [Bool.and_eq_true, decide_eq_true_eq] at hok
  obtain ⟨hgd, hlen, hse⟩ := hok
  subst hse
  obtain ⟨N, hN, hN1, hN2⟩ := goodN_rng hgd
  have hN : A.length = N := by omega
  refine cond_f hF rfl ?_
  repeat with_reducible first | refine wp_seq ?_ | refine nThen ?_ | refine wp_skip ?_
  obtain ⟨p2, hp2, hF⟩ := hF.open (s := 2) rfl
  obtain ⟨p3, hp3, hF⟩ := hF.open (s := 3) rfl
  have hsa := TA.below hs hB
  have hsb := TB.below hs2 hB
  have hw2 := hB.size
  have hlt4 := hb4.lt
  have hB0 := hB
  replace hB := Below.refl w2.heap.size w2
  clear hs hs2 hG
  refine' region_ty 7 mixed (by kernel_rfl) hF ?_ ?_
  rotate_left
  · simp only [List.take_succ_cons, List.take_zero]
    repeat (first
        | exact Line.nil
        | (refine' Line.cons rfl (.new rfl rfl (run_alloc_i infoT46) rfl) ?_; rotate_left)
        | ((refine' Line.cons rfl (.run rfl rfl ?_) ?_)
           any_goals (first | exact cFldS46 rfl (.l rfl hp2) | exact cLoadU64 rfl (.t rfl) | exact cFldL46 rfl (.l rfl hp2) | exact cRowOf46 rfl (.t rfl) | exact cCallS1 rfl (.l rfl hsa) (cloneC_ty A (by omega)) | exact cBuildTabO (L := A) rfl rfl rfl (fun s hs w => buildT46 _ hs w))
           rotate_left))
  intro a w3 hF hb hN
  have hBs := hB.size
  replace hB := hB.trans (hb.mono hB.size)
  simp only [List.take_succ_cons, List.take_zero, List.drop_succ_cons, List.drop_zero] at hF hN ⊢
  dsimp only [ext, Option.getD] at hF
  obtain ⟨z, ⟨s6, rfl, S, hsg, hS⟩, hF⟩ := hF.open (s := 34) rfl
  obtain ⟨g, off, cap, rfl, rfl, hsl⟩ : ∃ g off cap, s6 = .slice (some ⟨g, off, none⟩) A.length cap ∧ S = [g] ∧ SegL w3 27 65 g off A.length cap (flatC A) := by
    rcases hsg.cases with ⟨_, h0, _⟩ | h
    · omega
    · exact h
  have hg : w2.heap.size ≤ g := hS g (by simp)
  obtain ⟨z, ⟨g6, rfl, hg6, hb6⟩, hF⟩ := hF.open (s := 6) rfl
  have hg6 : w2.heap.size ≤ g6 := hg6
  refine tlStoreV (Δ := [(2, Ty.ex p2), (3, Ty.ex p3), (4, Ty.ex (.pointer (some ⟨g4, 0, none⟩))), (6, Ty.ex (.pointer (some ⟨g6, 0, none⟩)))]) hF rfl rfl rfl rfl (hF.getEx (s := 34) rfl) hb6 rfl sizeT46 (sl_one hsg.sl _) (hF.keep [2, 3, 4, 6]) rfl ?_
  intro w4 hF hb6' hkx
  refine wpList_nil ?_
  replace hB := below_own hB hkx (by intro y hy; simp only [List.mem_singleton] at hy; omega)
  have hne : g ≠ g6 := fun h => by
    subst h
    obtain ⟨cs, fr, h1⟩ := hsl.block
    unfold Blk at hb6
    rw [hb6] at h1
    simp only [Option.some.injEq, Obj.cells.injEq] at h1
    exact absurd h1.2.1 (by decide)
  replace hsl := hsl.keeps hkx (by simpa using hne)
  replace hb6 : Blk w4 g6 38 #[.int .u64 (sa : Int), .slice (some ⟨g, off, none⟩) A.length cap] := hb6'
  clear hb6'
  clear hS hsg hkx
  have hpb := (Ty.at_ 38 [.int .u64 (sa : Int), s2]).below hp3 hB
  have hsb4 := TB.below hsb hB
  repeat with_reducible first | refine wp_seq ?_ | refine nThen ?_
  refine' reg_all hF ?_ mixed (by kernel_rfl) ?_
  rotate_left
  · repeat (first | exact Line.nil | ((refine' Line.cons rfl (.run rfl rfl ?_) ?_); (any_goals (first | exact cMove rfl rfl | exact cFldL46 rfl (.l rfl hpb) | exact cRowOf46 rfl (.t rfl) | exact cLenH rfl (.l rfl hsb4) (Ty.sl_isSl _ _ _) Tryd.underlying36)); rotate_left))
  intro a w5 hF hb hN
  have hBs := hB.size
  replace hB := hB.trans (hb.mono hB.size)
  dsimp only [ext, Option.getD] at hF
  repeat with_reducible first | refine nThen ?_ | refine wp_block ?_
  replace hsl := hsl.below hb
  replace hb6 := hb6.below hb
  refine loop_ty (fun m a wr => ∃ i : Nat, i + m = B.length ∧ Fr 56 [(4, Ty.ex (.pointer (some ⟨g4, 0, none⟩))), (6, Ty.ex (.pointer (some ⟨g6, 0, none⟩))), (36, Ty.ex s2), (37, Ty.ex (.int .i64 (B.length : Int))), (38, Ty.ex (.int .i64 (i : Int)))] a wr ∧ Below w2.heap.size w2 wr ∧ Blk wr g6 38 #[.int .u64 (sa : Int), .slice (some ⟨g, off, none⟩) A.length cap] ∧ SegL wr 27 65 g off A.length cap (flatC (mixM A B i))) B.length ?_ ?_
  · exact ⟨0, by omega, hF.keep [4, 6, 36, 37, 38], hB, hb6, by rw [mixM_zero]; exact hsl⟩
  clear hF hB hsl hb6
  rintro m a wr ⟨i, hi, hF, hB, hb6, hsl⟩
  repeat with_reducible refine wp_seq ?_
  refine' reg_all hF ?_ mixed (by kernel_rfl) ?_
  rotate_left
  · repeat (first | exact Line.nil | ((refine' Line.cons rfl (.run rfl rfl ?_) ?_); (any_goals exact cLss rfl rfl rfl); rotate_left))
  intro a w6 hF hb hN
  have hBs := hB.size
  replace hB := hB.trans (hb.mono hB.size)
  dsimp only [ext, Option.getD] at hF
  repeat with_reducible first | refine wp_seq ?_ | refine nThen ?_
  replace hsl := hsl.below hb
  replace hb6 := hb6.below hb
  refine cond_ty hF rfl (fun hlt => ?_) (fun hge => ?_)
  · have hlt : i < B.length := by have := of_decide_eq_true hlt; omega
    have hsb6 := TB.below hsb hB
    have hw6 := hB.size
    have hsl0 := hsl
    repeat with_reducible first | refine wp_seq ?_ | refine nThen ?_ | refine wp_skip ?_ | refine wp_block ?_
    refine' region_ty 5 mixed (by kernel_rfl) hF ?_ ?_
    rotate_left
    · simp only [List.take_succ_cons, List.take_zero]
      repeat (first
          | exact Line.nil
          | (refine' Line.cons rfl (.new rfl rfl (run_alloc_i infoC34) rfl) ?_; rotate_left)
          | ((refine' Line.cons rfl (.run rfl rfl ?_) ?_)
             any_goals (first | exact cMove rfl rfl | exact cAssign rfl rfl | exact cIndexCl (k := i) rfl (.l rfl hsb6) rfl Tryd.underlying36 info34 hlt | exact cLoadCl34 rfl (.t rfl))
             rotate_left))
    intro a w7 hF hb hN
    have hBs := hB.size
    replace hB := hB.trans (hb.mono hB.size)
    simp only [List.take_succ_cons, List.take_zero, List.drop_succ_cons, List.drop_zero] at hF hN ⊢
    dsimp only [ext, Option.getD] at hF
    replace hsl := hsl.below hb
    replace hb6 := hb6.below hb
    have hlg := hsl.lt
    obtain ⟨z, ⟨g8, rfl, hg8, hb8⟩, hF⟩ := hF.open (s := 8) rfl
    have hg8 : w6.heap.size ≤ g8 := hg8
    have hlt6 := hb6.lt
    have hg86 : g8 ≠ g6 := fun h => by subst h; exact absurd (hb8.ne hb6 (by decide)) (by simp)
    have hg8g : g ≠ g8 := by have := hsl0.lt; omega
    refine tlStoreV (Δ := [(4, Ty.ex (.pointer (some ⟨g4, 0, none⟩))), (6, Ty.ex (.pointer (some ⟨g6, 0, none⟩))), (7, Ty.ex (.int .i64 (i : Int))), (8, Ty.ex (.pointer (some ⟨g8, 0, none⟩))), (36, Ty.ex s2), (37, Ty.ex (.int .i64 (B.length : Int))), (38, Ty.ex (.int .i64 (i : Int)))]) hF rfl rfl rfl rfl (hF.getEx (s := 42) rfl) hb8 (clSz _ _) (by show _ = some (Cl.a _).size; rw [Cl.size]; exact info34) (Cl.one _) (hF.keep [4, 6, 7, 8, 36, 37, 38]) rfl ?_
    intro w8 hF hb8 hkx
    refine wpList_nil ?_
    replace hB := below_own hB hkx (by intro y hy; simp only [List.mem_singleton] at hy; omega)
    replace hsl := hsl.keeps hkx (by simpa using hg8g)
    replace hb6 := hb6.keeps hkx (by simpa using Ne.symm hg86)
    have h8 : (Ty.at_ 27 (B.getD i default).enc).p w8 (.pointer (some ⟨g8, 0, none⟩)) := blk_at hb8
    have h6 : (Ty.at_ 38 [.int .u64 (sa : Int), .slice (some ⟨g, off, none⟩) A.length cap]).p w8 (.pointer (some ⟨g6, 0, none⟩)) := blk_at hb6
    have hcell : (Ty.at_ 27 (A.getD i default).enc).p w8 (.pointer (some ⟨g, off + i * 65, none⟩)) := by
      obtain ⟨g', off', he, h⟩ := SlP.elem (k := i * 65) hsl.sl (by rw [flatC_len, mixM_len hlen]; omega)
      simp only [Option.some.injEq, Addr.mk.injEq] at he
      obtain ⟨rfl, rfl, _⟩ := he
      have h := h (i * 65)
      rw [flatC_at _ (by rw [mixM_len hlen]; omega), mixM_get hlen (by omega)] at h
      exact at_pre _ _ h
    clear hb8 hkx
    repeat with_reducible refine nThen ?_
    refine' region_ty 11 mixed (by kernel_rfl) hF ?_ ?_
    rotate_left
    · simp only [List.take_succ_cons, List.take_zero]
      repeat (first | exact Line.nil | ((refine' Line.cons rfl (.run rfl rfl ?_) ?_); (any_goals (first | exact cMove rfl rfl | exact cFldL46 rfl (.l rfl h6) | exact cRowOf46 rfl (.t rfl) | exact cIndexEx (k := i) (sz := 65) rfl rfl rfl Tryd.underlying36 info34 (by omega) | exact cLoadCl34 rfl (.l rfl hcell) | exact cLoadCl34 rfl (.l rfl h8) | exact cCall2 rfl rfl rfl (cminus_ty _ _))); rotate_left))
    intro a w9 hF hb hN
    have hBs := hB.size
    replace hB := hB.trans (hb.mono hB.size)
    simp only [List.take_succ_cons, List.take_zero, List.drop_succ_cons, List.drop_zero] at hF hN ⊢
    dsimp only [ext, Option.getD] at hF
    replace hsl := hsl.below hb
    replace hb6 := hb6.below hb
    refine tlStoreAt (Δ := [(4, Ty.ex (.pointer (some ⟨g4, 0, none⟩))), (6, Ty.ex (.pointer (some ⟨g6, 0, none⟩))), (36, Ty.ex s2), (37, Ty.ex (.int .i64 (B.length : Int))), (38, Ty.ex (.int .i64 (i : Int)))]) (k := i * 65) hF rfl rfl rfl rfl rfl hsl (by rw [Cl.size]; omega) (by rw [Cl.size]; exact info34) (Cl.one _) (hF.keep [4, 6, 36, 37, 38]) rfl ?_
    intro w10 hF hsl hk10
    refine wpList_nil ?_
    replace hB := below_own hB hk10 (by intro y hy; simp only [List.mem_singleton] at hy; omega)
    replace hb6 := hb6.keeps hk10 (by simpa using Ne.symm hne)
    rw [show (((A.getD i default).minus (B.getD i default)).a).toList = ((A.getD i default).minus (B.getD i default)).enc from rfl, over_flatC _ _ (by rw [mixM_len hlen]; omega), mixM_set hlen (by omega)] at hsl
    repeat with_reducible first | refine nThen ?_ | refine nBlk ?_
    refine' reg_all hF ?_ mixed (by kernel_rfl) ?_
    rotate_left
    · repeat (first | exact Line.nil | ((refine' Line.cons rfl (.run rfl rfl ?_) ?_); (any_goals (first | exact cMove rfl rfl | exact cAdd (r := ((i + 1 : Nat) : Int)) rfl rfl rfl (by omega))); rotate_left))
    intro a w11 hF hb hN
    have hBs := hB.size
    replace hB := hB.trans (hb.mono hB.size)
    dsimp only [ext, Option.getD] at hF
    repeat with_reducible refine nThen ?_
    exact ⟨m - 1, by omega, i + 1, by omega, hF.keep [4, 6, 36, 37, 38], hB, hb6.below hb, hsl.below hb⟩
  have hge : ¬ i < B.length := by have := of_decide_eq_false hge; omega
  obtain rfl : i = A.length := by omega
  rw [mixM_all hlen] at hsl
  have h6 : (Ty.at_ 38 [.int .u64 (sa : Int), .slice (some ⟨g, off, none⟩) A.length cap]).p w6 (.pointer (some ⟨g6, 0, none⟩)) := blk_at hb6
  replace hb4 : Blk w6 g4 38 zeroT := hb4.below hB
  replace hB := hB0.trans (hB.mono hw2)
  have hg4 : w.heap.size ≤ g4 := hg4
  have hg46 : g4 ≠ g := by omega
  clear hb6
  repeat with_reducible first | refine wp_seq ?_ | refine nThen ?_ | refine wp_exit ?_ | refine xThen ?_ | refine xHere ?_
  refine wp_region_lit ?_
  refine' tlOp hF rfl rfl rfl ?_ ?_
  rotate_left
  · exact cLoadT46 rfl (.l rfl h6)
  intro a w7 hF hb
  have hBs := hB.size
  replace hB := hB.trans (hb.mono hB.size)
  try (refine wpList_nil ?_)
  replace hb4 := hb4.below hb
  replace hsl := hsl.below hb
  refine tlStoreV (Δ := [(4, Ty.ex (.pointer (some ⟨g4, 0, none⟩)))]) hF rfl rfl rfl rfl (hF.getEx (s := 55) rfl) hb4 rfl sizeT46 (tabCells sa _ _ _) (hF.keep [4]) rfl ?_
  intro w8 hF hb4 hkx
  replace hB := below_own hB hkx (by intro y hy; simp only [List.mem_singleton] at hy; omega)
  replace hsl := hsl.keeps hkx (by simpa using Ne.symm hg46)
  refine' tlOp hF rfl rfl rfl ?_ ?_
  rotate_left
  · exact cAssign rfl rfl
  intro a w9 hF hb
  have hBs := hB.size
  replace hB := hB.trans (hb.mono hB.size)
  try (refine wpList_nil ?_)
  repeat with_reducible first | refine nThen ?_ | refine wp_ret ?_
  refine retCell2 hF rfl rfl rfl (hb4.below hb) Tryd.underlying38 rfl sizeT46 ?_
  refine ⟨_, rfl, ⟨_, rfl, _, rfl, [g], ?_, fun y hy => ?_⟩, hB⟩
  · rw [tminus_len hlen]
    exact (hsl.below hb).seg
  · simp only [List.mem_singleton] at hy
    omega
end Go.Proofs.YtgmeagkolahkoaaDoor

/- Layer 15 by types: Zero, the program's and the document's. -/
namespace Go.Proofs.YtgmeagkolahkoaaDoor
open Go.RowKit

/-- All cells are nought. -/
def allZ (L : List Cl) : Bool := L.all fun c => decide (c = Cl.zero)
theorem allZ_bad {L : List Cl} {k : Nat} (hk : k < L.length) (h : ¬ L.getD k default = Cl.zero) : allZ L = false := by
  unfold allZ
  rw [List.all_eq_false]
  exact ⟨L[k], List.getElem_mem hk, by simpa [List.getD, List.getElem?_eq_getElem hk] using h⟩
theorem allZ_all {L : List Cl} (h : ∀ k, k < L.length → L.getD k default = Cl.zero) : allZ L = true := by
  unfold allZ
  rw [List.all_eq_true]
  intro c hc
  obtain ⟨k, hk, rfl⟩ := List.getElem_of_mem hc
  simpa [List.getD, List.getElem?_eq_getElem hk] using h k hk
theorem allZ_iff {L : List Cl} : allZ L = true ↔ ∀ k, k < L.length → L.getD k default = Cl.zero := by
  refine ⟨fun h k hk => ?_, allZ_all⟩
  exact Classical.byContradiction fun hb => by rw [allZ_bad hk hb] at h; cases h
set_option maxRecDepth 100000 in
theorem zero1_ty (c : Cl) : Fn1 Tryd.prog 79 (Ty.ex (.agg c.a)) (Ty.ex (.bool (!decide (c = Cl.zero)))) := by
  refine ⟨fun args w => by kernel_rfl, fun w v hv => ?_⟩
  have hC := czero_ty c
  refine enter_ty 6 [Ty.ex (.agg c.a)] Tryd.func79 rfl (by kernel_rfl) ⟨hv, trivial⟩ fun a hF => ?_
  have hB := Below.refl w.heap.size w
  repeat with_reducible refine wp_seq ?_
  refine' reg_all hF ?_ mixed (by kernel_rfl) ?_
  rotate_left
  · repeat (first | exact Line.nil | ((refine' Line.cons rfl (.run rfl rfl ?_) ?_); (any_goals (first | exact cAssign rfl rfl | exact cBoxCl rfl rfl)); rotate_left))
  intro a w1 hF hb hN
  have hBs := hB.size
  replace hB := hB.trans (hb.mono hB.size)
  dsimp only [ext, Option.getD] at hF
  repeat with_reducible first | refine wp_seq ?_ | refine nThen ?_
  refine' reg_all hF ?_ mixed (by kernel_rfl) ?_
  rotate_left
  · repeat (first | exact Line.nil | ((refine' Line.cons rfl (.run rfl rfl ?_) ?_); (any_goals (first | exact cAssign rfl rfl | exact cNot rfl rfl | exact cLoadCl34 rfl (.t rfl) | exact cCall1 rfl rfl hC)); rotate_left))
  intro a w2 hF hb hN
  have hBs := hB.size
  replace hB := hB.trans (hb.mono hB.size)
  dsimp only [ext, Option.getD] at hF
  repeat with_reducible first | refine nThen ?_ | refine wp_ret ?_
  refine ret1 hF rfl rfl fun z hz => ?_
  exact ⟨z, rfl, hz, hB⟩
abbrev zeroFn : Value := .func (.func 79) #[] #[]
set_option maxRecDepth 100000 in
/-- The first that is not nought; -1. -/
theorem idxCl_ty (L : List Cl) (hL : L.length ≤ 1000000) : ∃ r : Int, (decide (0 ≤ r) = !allZ L) ∧ Fn2 Tryd.prog 99 (Ty.cls 27 L) (Ty.ex zeroFn) (Ty.ex (.int .i64 r)) := by
  by_cases hz : allZ L = true
  · refine ⟨-1, by rw [hz]; rfl, fun args w => by kernel_rfl, fun w v u hv hu => ?_⟩
    have hall := allZ_iff.1 hz
    let TL := Ty.cls 27 L
    refine enter_ty 19 [Ty.ex v, Ty.ex zeroFn] Tryd.func99 rfl (by kernel_rfl) ⟨rfl, hu, trivial⟩ fun a hF => ?_
    have hB := Below.refl w.heap.size w
    repeat with_reducible refine wp_seq ?_
    refine' reg_all hF ?_ mixed (by kernel_rfl) ?_
    rotate_left
    · repeat (first | exact Line.nil | ((refine' Line.cons rfl (.run rfl rfl ?_) ?_); (any_goals exact cAssign rfl rfl); rotate_left))
    intro a w1 hF hb hN
    have hBs := hB.size
    replace hB := hB.trans (hb.mono hB.size)
    dsimp only [ext, Option.getD] at hF
    repeat with_reducible first | refine wp_seq ?_ | refine nThen ?_
    have hv1 := TL.below hv hB
    refine' reg_all hF ?_ mixed (by kernel_rfl) ?_
    rotate_left
    · repeat (first | exact Line.nil | ((refine' Line.cons rfl (.run rfl rfl ?_) ?_); (any_goals (first | exact cMove rfl rfl | exact cLenH rfl (.l rfl hv1) (Ty.sl_isSl _ _ _) Tryd.underlying36)); rotate_left))
    intro a w2 hF hb hN
    have hBs := hB.size
    replace hB := hB.trans (hb.mono hB.size)
    dsimp only [ext, Option.getD] at hF
    repeat with_reducible first | refine nThen ?_ | refine wp_block ?_
    refine loop_ty (fun m a wr => ∃ k : Nat, k + m = L.length ∧ Fr 19 [(0, Ty.ex v), (1, Ty.ex zeroFn), (7, Ty.ex (.int .i64 (L.length : Int))), (8, Ty.ex (.int .i64 (k : Int)))] a wr ∧ Below w.heap.size w wr) L.length ?_ ?_
    · exact ⟨0, by omega, hF.keep [0, 1, 7, 8], hB⟩
    clear hF hB hv1
    rintro m a wr ⟨k, hk, hF, hB⟩
    repeat with_reducible refine wp_seq ?_
    refine' reg_all hF ?_ mixed (by kernel_rfl) ?_
    rotate_left
    · repeat (first | exact Line.nil | ((refine' Line.cons rfl (.run rfl rfl ?_) ?_); (any_goals exact cLss rfl rfl rfl); rotate_left))
    intro a w3 hF hb hN
    have hBs := hB.size
    replace hB := hB.trans (hb.mono hB.size)
    dsimp only [ext, Option.getD] at hF
    repeat with_reducible first | refine wp_seq ?_ | refine nThen ?_
    refine cond_ty hF rfl (fun hlt => ?_) (fun hge => ?_)
    · have hlt : k < L.length := by have := of_decide_eq_true hlt; omega
      have hC := zero1_ty (L.getD k default)
      rw [hall k hlt] at hC
      repeat with_reducible first | refine wp_seq ?_ | refine nThen ?_ | refine wp_skip ?_ | refine wp_block ?_
      refine' reg_all hF ?_ mixed (by kernel_rfl) ?_
      rotate_left
      · repeat (first | exact Line.nil | ((refine' Line.cons rfl (.run rfl rfl ?_) ?_); (any_goals (first | exact cMove rfl rfl | exact cAssign rfl rfl)); rotate_left))
      intro a w4 hF hb hN
      have hBs := hB.size
      replace hB := hB.trans (hb.mono hB.size)
      dsimp only [ext, Option.getD] at hF
      repeat with_reducible first | refine wp_seq ?_ | refine nThen ?_
      have hv4 := TL.below hv hB
      have hix : ∀ {Γ : Ctx} {o : Oper} {x ix : Operand} {kd : IntKind} (ho : o.op = .indexAddr 36 x ix) (hx : Has w4 Γ x (Ty.cls 27 L)) (hi : OpT Γ ix (Ty.ex (.int kd (k : Int)))), OpOk Tryd.prog w4 Γ o (Ty.at_ 27 Cl.zero.enc) := fun ho hx hi => by
        have h := cIndexCl (P := Tryd.prog) (k := k) ho hx hi Tryd.underlying36 info34 hlt
        rwa [hall k hlt] at h
      refine' reg_all hF ?_ mixed (by kernel_rfl) ?_
      rotate_left
      · repeat (first | exact Line.nil | ((refine' Line.cons rfl (.run rfl rfl ?_) ?_); (any_goals (first | exact cMove rfl rfl | exact hix rfl (.l rfl hv4) rfl | exact cLoadCl34 rfl (.t rfl) | exact OpOk.b (c := false) (cCallV1 rfl rfl (.t rfl) hC) (by decide))); rotate_left))
      intro a w5 hF hb hN
      have hBs := hB.size
      replace hB := hB.trans (hb.mono hB.size)
      dsimp only [ext, Option.getD] at hF
      repeat with_reducible refine nThen ?_
      refine cond_f hF rfl ?_
      repeat with_reducible first | refine nThen ?_ | refine nBlk ?_ | refine wp_skip ?_
      refine' reg_all hF ?_ mixed (by kernel_rfl) ?_
      rotate_left
      · repeat (first | exact Line.nil | ((refine' Line.cons rfl (.run rfl rfl ?_) ?_); (any_goals (first | exact cMove rfl rfl | exact cAdd (r := ((k + 1 : Nat) : Int)) rfl rfl rfl (by omega))); rotate_left))
      intro a w6 hF hb hN
      have hBs := hB.size
      replace hB := hB.trans (hb.mono hB.size)
      dsimp only [ext, Option.getD] at hF
      repeat with_reducible refine nThen ?_
      exact ⟨m - 1, by omega, k + 1, by omega, hF.keep [0, 1, 7, 8], hB⟩
    · have hge : ¬ k < L.length := by have := of_decide_eq_false hge; omega
      repeat with_reducible first | refine wp_seq ?_ | refine nThen ?_ | refine wp_exit ?_ | refine xThen ?_ | refine xHere ?_
      refine' reg_all hF ?_ mixed (by kernel_rfl) ?_
      rotate_left
      · repeat (first | exact Line.nil | ((refine' Line.cons rfl (.run rfl rfl ?_) ?_); (any_goals exact cAssign rfl rfl); rotate_left))
      intro a w4 hF hb hN
      have hBs := hB.size
      replace hB := hB.trans (hb.mono hB.size)
      dsimp only [ext, Option.getD] at hF
      repeat with_reducible first | refine nThen ?_ | refine wp_ret ?_
      refine ret1 hF rfl rfl fun z hz => ?_
      exact ⟨z, rfl, hz, hB⟩
  · have hz : allZ L = false := by simpa using hz
    obtain ⟨k0, hk0, hne0, hlo⟩ : ∃ k, k < L.length ∧ ¬ L.getD k default = Cl.zero ∧ ∀ j, j < k → L.getD j default = Cl.zero := by
      have hex : ∃ k, k < L.length ∧ ¬ L.getD k default = Cl.zero := Classical.byContradiction fun h => by
        have : allZ L = true := allZ_all fun k hk => Classical.byContradiction fun hb => h ⟨k, hk, hb⟩
        rw [this] at hz; cases hz
      have key : ∀ n, (∃ k, k < n ∧ k < L.length ∧ ¬ L.getD k default = Cl.zero) → ∃ k, k < L.length ∧ ¬ L.getD k default = Cl.zero ∧ ∀ j, j < k → L.getD j default = Cl.zero := by
        intro n
        induction n with
        | zero => rintro ⟨k, h, _⟩; omega
        | succ n ih =>
          rintro ⟨k, h1, h2, h3⟩
          by_cases hn : ∃ k, k < n ∧ k < L.length ∧ ¬ L.getD k default = Cl.zero
          · exact ih hn
          · refine ⟨k, h2, h3, fun j hj => Classical.byContradiction fun hb => hn ⟨j, by omega, by omega, hb⟩⟩
      obtain ⟨k, h1, h2⟩ := hex
      exact key (k + 1) ⟨k, by omega, h1, h2⟩
    refine ⟨(k0 : Int), by rw [hz]; exact decide_eq_true (by omega), fun args w => by kernel_rfl, fun w v u hv hu => ?_⟩
    let TL := Ty.cls 27 L
    refine enter_ty 19 [Ty.ex v, Ty.ex zeroFn] Tryd.func99 rfl (by kernel_rfl) ⟨rfl, hu, trivial⟩ fun a hF => ?_
    have hB := Below.refl w.heap.size w
    repeat with_reducible refine wp_seq ?_
    refine' reg_all hF ?_ mixed (by kernel_rfl) ?_
    rotate_left
    · repeat (first | exact Line.nil | ((refine' Line.cons rfl (.run rfl rfl ?_) ?_); (any_goals exact cAssign rfl rfl); rotate_left))
    intro a w1 hF hb hN
    have hBs := hB.size
    replace hB := hB.trans (hb.mono hB.size)
    dsimp only [ext, Option.getD] at hF
    repeat with_reducible first | refine wp_seq ?_ | refine nThen ?_
    have hv1 := TL.below hv hB
    refine' reg_all hF ?_ mixed (by kernel_rfl) ?_
    rotate_left
    · repeat (first | exact Line.nil | ((refine' Line.cons rfl (.run rfl rfl ?_) ?_); (any_goals (first | exact cMove rfl rfl | exact cLenH rfl (.l rfl hv1) (Ty.sl_isSl _ _ _) Tryd.underlying36)); rotate_left))
    intro a w2 hF hb hN
    have hBs := hB.size
    replace hB := hB.trans (hb.mono hB.size)
    dsimp only [ext, Option.getD] at hF
    repeat with_reducible first | refine nThen ?_ | refine wp_block ?_
    refine loop_ty (fun m a wr => ∃ k : Nat, k + m = L.length ∧ k ≤ k0 ∧ Fr 19 [(0, Ty.ex v), (1, Ty.ex zeroFn), (7, Ty.ex (.int .i64 (L.length : Int))), (8, Ty.ex (.int .i64 (k : Int)))] a wr ∧ Below w.heap.size w wr) L.length ?_ ?_
    · exact ⟨0, by omega, by omega, hF.keep [0, 1, 7, 8], hB⟩
    clear hF hB hv1
    rintro m a wr ⟨k, hk, hk2, hF, hB⟩
    repeat with_reducible refine wp_seq ?_
    refine' reg_all hF ?_ mixed (by kernel_rfl) ?_
    rotate_left
    · repeat (first | exact Line.nil | ((refine' Line.cons rfl (.run rfl rfl ?_) ?_); (any_goals exact OpOk.b (c := true) (cLss rfl rfl rfl) (decide_eq_true (by omega))); rotate_left))
    intro a w3 hF hb hN
    have hBs := hB.size
    replace hB := hB.trans (hb.mono hB.size)
    dsimp only [ext, Option.getD] at hF
    repeat with_reducible first | refine wp_seq ?_ | refine nThen ?_
    refine cond_t hF rfl ?_
    have hC := zero1_ty (L.getD k default)
    repeat with_reducible first | refine wp_seq ?_ | refine nThen ?_ | refine wp_skip ?_ | refine wp_block ?_
    refine' reg_all hF ?_ mixed (by kernel_rfl) ?_
    rotate_left
    · repeat (first | exact Line.nil | ((refine' Line.cons rfl (.run rfl rfl ?_) ?_); (any_goals (first | exact cMove rfl rfl | exact cAssign rfl rfl)); rotate_left))
    intro a w4 hF hb hN
    have hBs := hB.size
    replace hB := hB.trans (hb.mono hB.size)
    dsimp only [ext, Option.getD] at hF
    repeat with_reducible first | refine wp_seq ?_ | refine nThen ?_
    have hv4 := TL.below hv hB
    refine' reg_all hF ?_ mixed (by kernel_rfl) ?_
    rotate_left
    · repeat (first | exact Line.nil | ((refine' Line.cons rfl (.run rfl rfl ?_) ?_); (any_goals (first | exact cMove rfl rfl | exact cIndexCl (k := k) rfl (.l rfl hv4) rfl Tryd.underlying36 info34 (by omega) | exact cLoadCl34 rfl (.t rfl) | exact cCallV1 rfl rfl (.t rfl) hC)); rotate_left))
    intro a w5 hF hb hN
    have hBs := hB.size
    replace hB := hB.trans (hb.mono hB.size)
    dsimp only [ext, Option.getD] at hF
    repeat with_reducible refine nThen ?_
    refine cond_ty hF rfl (fun hin => ?_) (fun hout => ?_)
    · have hkk : k = k0 := Classical.byContradiction fun h => by
        rw [hlo k (by omega)] at hin
        simp at hin
      subst hkk
      repeat with_reducible refine wp_seq ?_
      refine' reg_all hF ?_ mixed (by kernel_rfl) ?_
      rotate_left
      · repeat (first | exact Line.nil | ((refine' Line.cons rfl (.run rfl rfl ?_) ?_); (any_goals (first | exact cMove rfl rfl | exact cAssign rfl rfl)); rotate_left))
      intro a w6 hF hb hN
      have hBs := hB.size
      replace hB := hB.trans (hb.mono hB.size)
      dsimp only [ext, Option.getD] at hF
      repeat with_reducible first | refine nThen ?_ | refine wp_ret ?_ | refine rThen ?_ | refine rBlk ?_
      refine ret1 hF rfl rfl fun z hz => ?_
      exact ⟨z, rfl, hz, hB⟩
    · have hkk : k < k0 := Classical.byContradiction fun h => by
        obtain rfl : k = k0 := by omega
        simp at hout
        exact hne0 (by simpa [List.getD] using hout)
      repeat with_reducible first | refine nThen ?_ | refine nBlk ?_ | refine wp_skip ?_
      refine' reg_all hF ?_ mixed (by kernel_rfl) ?_
      rotate_left
      · repeat (first | exact Line.nil | ((refine' Line.cons rfl (.run rfl rfl ?_) ?_); (any_goals (first | exact cMove rfl rfl | exact cAdd (r := ((k + 1 : Nat) : Int)) rfl rfl rfl (by omega))); rotate_left))
      intro a w6 hF hb hN
      have hBs := hB.size
      replace hB := hB.trans (hb.mono hB.size)
      dsimp only [ext, Option.getD] at hF
      repeat with_reducible refine nThen ?_
      exact ⟨m - 1, by omega, k + 1, by omega, by omega, hF.keep [0, 1, 7, 8], hB⟩
set_option maxRecDepth 100000 in
theorem contCl_ty (L : List Cl) (hL : L.length ≤ 1000000) : Fn2 Tryd.prog 78 (Ty.cls 27 L) (Ty.ex zeroFn) (Ty.ex (.bool (!allZ L))) := by
  obtain ⟨r, hr, hI⟩ := idxCl_ty L hL
  refine ⟨fun args w => by kernel_rfl, fun w v u hv hu => ?_⟩
  refine enter_ty 9 [Ty.ex v, Ty.ex zeroFn] Tryd.func78 rfl (by kernel_rfl) ⟨rfl, hu, trivial⟩ fun a hF => ?_
  have hB := Below.refl w.heap.size w
  repeat with_reducible refine wp_seq ?_
  refine' reg_all hF ?_ mixed (by kernel_rfl) ?_
  rotate_left
  · repeat (first | exact Line.nil | ((refine' Line.cons rfl (.run rfl rfl ?_) ?_); (any_goals exact cAssign rfl rfl); rotate_left))
  intro a w1 hF hb hN
  have hBs := hB.size
  replace hB := hB.trans (hb.mono hB.size)
  dsimp only [ext, Option.getD] at hF
  repeat with_reducible first | refine wp_seq ?_ | refine nThen ?_
  have hv1 := (Ty.cls 27 L).below hv hB
  refine' reg_all hF ?_ mixed (by kernel_rfl) ?_
  rotate_left
  · repeat (first | exact Line.nil | ((refine' Line.cons rfl (.run rfl rfl ?_) ?_); (any_goals (first | exact cMove rfl rfl | exact cAssign rfl rfl | exact cCallH2 rfl (.l rfl hv1) (.t rfl) hI | exact OpOk.b (cGeq rfl rfl rfl) hr)); rotate_left))
  intro a w2 hF hb hN
  have hBs := hB.size
  replace hB := hB.trans (hb.mono hB.size)
  dsimp only [ext, Option.getD] at hF
  repeat with_reducible first | refine nThen ?_ | refine wp_ret ?_
  refine ret1 hF rfl rfl fun z hz => ?_
  exact ⟨z, rfl, hz, hB⟩
set_option maxRecDepth 100000 in
theorem tzero_ty (seed : Nat) (L : List Cl) : Fn1 Tryd.prog 53 (Ty.tab 27 seed L) (Ty.ex (.bool (goodN (L.length : Int) && allZ L))) := by
  refine ⟨fun args w => by kernel_rfl, fun w v ⟨s, hv, hs⟩ => ?_⟩
  subst hv
  have hG := tgood_ty seed L
  by_cases hg : goodN (L.length : Int) = true
  · obtain ⟨N, hN, _, hN2⟩ := goodN_rng hg
    have hC := contCl_ty L (by omega)
    rw [hg] at hG ⊢
    refine enter_ty 11 [Ty.ex (.agg #[.int .u64 (seed : Int), s])] Tryd.func53 rfl (by kernel_rfl) ⟨rfl, trivial⟩ fun a hF => ?_
    have hB := Below.refl w.heap.size w
    repeat with_reducible refine wp_seq ?_
    refine' reg_all hF ?_ mixed (by kernel_rfl) ?_
    rotate_left
    · repeat (first | exact Line.nil | ((refine' Line.cons rfl (.run rfl rfl ?_) ?_); (any_goals (first | exact cAssign rfl rfl | exact cBoxTab rfl rfl)); rotate_left))
    intro a w1 hF hb hN
    have hBs := hB.size
    replace hB := hB.trans (hb.mono hB.size)
    dsimp only [ext, Option.getD] at hF
    repeat with_reducible first | refine wp_seq ?_ | refine nThen ?_
    have hs1 := (Ty.cls 27 L).below hs hB
    have ht1 : (Ty.tab 27 seed L).p w1 (.agg #[.int .u64 (seed : Int), s]) := ⟨s, rfl, hs1⟩
    refine' reg_all hF ?_ mixed (by kernel_rfl) ?_
    rotate_left
    · repeat (first | exact Line.nil | ((first | refine' Line.cons rfl (.run rfl rfl ?_) ?_ | refine' Line.cons rfl (.yes rfl rfl rfl rfl ?_) ?_); (any_goals (first | exact cMove rfl rfl | exact cAssign rfl rfl | exact cNot rfl rfl | exact cLoadT46 rfl (.t rfl) | exact cCallH1 rfl (.l rfl ht1) hG | exact cFldL46 rfl (.t rfl) | exact cRowOf46 rfl (.t rfl) | exact cCallH2 rfl (.l rfl hs1) (.t rfl) hC | exact cPickT rfl rfl rfl)); rotate_left))
    intro a w2 hF hb hN
    have hBs := hB.size
    replace hB := hB.trans (hb.mono hB.size)
    dsimp only [ext, Option.getD] at hF
    repeat with_reducible first | refine nThen ?_ | refine wp_ret ?_
    refine ret1 hF rfl rfl fun z hz => ?_
    refine ⟨z, rfl, ?_, hB⟩
    rw [Bool.true_and, show allZ L = !!allZ L by simp]
    exact hz
  · have hg : goodN (L.length : Int) = false := by simpa using hg
    rw [hg] at hG ⊢
    refine enter_ty 11 [Ty.ex (.agg #[.int .u64 (seed : Int), s])] Tryd.func53 rfl (by kernel_rfl) ⟨rfl, trivial⟩ fun a hF => ?_
    have hB := Below.refl w.heap.size w
    repeat with_reducible refine wp_seq ?_
    refine' reg_all hF ?_ mixed (by kernel_rfl) ?_
    rotate_left
    · repeat (first | exact Line.nil | ((refine' Line.cons rfl (.run rfl rfl ?_) ?_); (any_goals (first | exact cAssign rfl rfl | exact cBoxTab rfl rfl)); rotate_left))
    intro a w1 hF hb hN
    have hBs := hB.size
    replace hB := hB.trans (hb.mono hB.size)
    dsimp only [ext, Option.getD] at hF
    repeat with_reducible first | refine wp_seq ?_ | refine nThen ?_
    have hs1 := (Ty.cls 27 L).below hs hB
    have ht1 : (Ty.tab 27 seed L).p w1 (.agg #[.int .u64 (seed : Int), s]) := ⟨s, rfl, hs1⟩
    refine' reg_all hF ?_ mixed (by kernel_rfl) ?_
    rotate_left
    · repeat (first | exact Line.nil | (refine' Line.cons rfl (.no rfl rfl rfl rfl rfl rfl) ?_; rotate_left) | ((refine' Line.cons rfl (.run rfl rfl ?_) ?_); (any_goals (first | exact cMove rfl rfl | exact cAssign rfl rfl | exact cLoadT46 rfl (.t rfl) | exact cCallH1 rfl (.l rfl ht1) hG | exact cPickF rfl rfl rfl)); rotate_left))
    intro a w2 hF hb hN
    have hBs := hB.size
    replace hB := hB.trans (hb.mono hB.size)
    dsimp only [ext, Option.getD] at hF
    repeat with_reducible first | refine nThen ?_ | refine wp_ret ?_
    refine ret1 hF rfl rfl fun z hz => ?_
    exact ⟨z, rfl, hz, hB⟩
end Go.Proofs.YtgmeagkolahkoaaDoor

/- The library's contracts, laid at this translation. -/
namespace Go.Proofs.YtgmeagkolahkoaaDoor
open Go.RowKit Go.Shelf

def laysSortS_ren : Go.Shelf.Ren := ⟨fun | 6 => 37 | 15 => 67 | 14 => 66 | 28 => 94 | 29 => 95 | 20 => 86 | 21 => 87 | 22 => 88 | 23 => 89 | 24 => 90 | 25 => 91 | 26 => 92 | 27 => 93 | 46 => 104 | 47 => 105 | 48 => 106 | 49 => 107 | 50 => 108 | 57 => 110 | n => n, fun | 22 => 33 | 24 => 25 | 25 => 90 | 3 => 3 | 39 => 63 | 0 => 0 | 53 => 97 | 55 => 22 | 4 => 4 | 46 => 151 | 45 => 150 | 50 => 124 | 5 => 5 | 9 => 9 | 66 => 163 | 70 => 167 | 76 => 170 | 77 => 171 | n => n, fun | n => n⟩
theorem laysSortS : Go.Proofs.SlLaysF0.n6 Tryd.prog laysSortS_ren := {
  mixed := by kernel_rfl
  f6 := ⟨Tryd.f37.name, by decide, Tryd.func37.trans (congrArg some (by kernel_rfl))⟩
  f14 := ⟨Tryd.f66.name, by decide, Tryd.func66.trans (congrArg some (by kernel_rfl))⟩
  f15 := Tryd.func67.trans (congrArg some (by kernel_rfl))
  f20 := ⟨Tryd.f86.name, by decide, Tryd.func86.trans (congrArg some (by kernel_rfl))⟩
  f21 := ⟨Tryd.f87.name, by decide, Tryd.func87.trans (congrArg some (by kernel_rfl))⟩
  f22 := ⟨Tryd.f88.name, by decide, Tryd.func88.trans (congrArg some (by kernel_rfl))⟩
  f23 := ⟨Tryd.f89.name, by decide, Tryd.func89.trans (congrArg some (by kernel_rfl))⟩
  f24 := ⟨Tryd.f90.name, by decide, Tryd.func90.trans (congrArg some (by kernel_rfl))⟩
  f25 := ⟨Tryd.f91.name, by decide, Tryd.func91.trans (congrArg some (by kernel_rfl))⟩
  f26 := ⟨Tryd.f92.name, by decide, Tryd.func92.trans (congrArg some (by kernel_rfl))⟩
  f27 := ⟨Tryd.f93.name, by decide, Tryd.func93.trans (congrArg some (by kernel_rfl))⟩
  f28 := Tryd.func94.trans (congrArg some (by kernel_rfl))
  f29 := Tryd.func95.trans (congrArg some (by kernel_rfl))
  f46 := ⟨Tryd.f104.name, by decide, Tryd.func104.trans (congrArg some (by kernel_rfl))⟩
  f47 := Tryd.func105.trans (congrArg some (by kernel_rfl))
  f48 := Tryd.func106.trans (congrArg some (by kernel_rfl))
  f49 := ⟨Tryd.f107.name, by decide, Tryd.func107.trans (congrArg some (by kernel_rfl))⟩
  f50 := ⟨Tryd.f108.name, by decide, Tryd.func108.trans (congrArg some (by kernel_rfl))⟩
  f57 := ⟨Tryd.f110.name, by decide, Tryd.func110.trans (congrArg some (by kernel_rfl))⟩
  t0 := Tryd.underlying0
  a0 := Tryd.isAgg0
  z0 := Tryd.sizeOf0
  v0 := Tryd.zeroValue0
  t3 := Tryd.underlying3
  a3 := Tryd.isAgg3
  z3 := Tryd.sizeOf3
  v3 := Tryd.zeroValue3
  t4 := Tryd.underlying4
  a4 := Tryd.isAgg4
  z4 := Tryd.sizeOf4
  v4 := Tryd.zeroValue4
  t5 := Tryd.underlying5
  a5 := Tryd.isAgg5
  z5 := Tryd.sizeOf5
  v5 := Tryd.zeroValue5
  t9 := Tryd.underlying9
  a9 := Tryd.isAgg9
  z9 := Tryd.sizeOf9
  v9 := Tryd.zeroValue9
  t22 := Tryd.underlying33
  a22 := Tryd.isAgg33
  z22 := Tryd.sizeOf33
  v22 := Tryd.zeroValue33
  t25 := Tryd.underlying90
  a25 := Tryd.isAgg90
  z25 := Tryd.sizeOf90
  v25 := Tryd.zeroValue90
  t39 := Tryd.underlying63
  a39 := Tryd.isAgg63
  z39 := Tryd.sizeOf63
  v39 := Tryd.zeroValue63
  t45 := Tryd.underlying150
  a45 := Tryd.isAgg150
  z45 := Tryd.sizeOf150
  v45 := Tryd.zeroValue150
  t46 := Tryd.underlying151
  a46 := Tryd.isAgg151
  z46 := Tryd.sizeOf151
  v46 := Tryd.zeroValue151
  t50 := Tryd.underlying124
  a50 := Tryd.isAgg124
  z50 := Tryd.sizeOf124
  v50 := Tryd.zeroValue124
  t53 := Tryd.underlying97
  a53 := Tryd.isAgg97
  z53 := Tryd.sizeOf97
  v53 := Tryd.zeroValue97
  t55 := Tryd.underlying22
  a55 := Tryd.isAgg22
  z55 := Tryd.sizeOf22
  v55 := Tryd.zeroValue22
  t66 := Tryd.underlying163
  a66 := Tryd.isAgg163
  z66 := Tryd.sizeOf163
  v66 := Tryd.zeroValue163
  t70 := Tryd.underlying167
  a70 := Tryd.isAgg167
  z70 := Tryd.sizeOf167
  v70 := Tryd.zeroValue167
  t76 := Tryd.underlying170
  a76 := Tryd.isAgg170
  z76 := Tryd.sizeOf170
  v76 := Tryd.zeroValue170
  t77 := Tryd.underlying171
  a77 := Tryd.isAgg171
  z77 := Tryd.sizeOf171
  v77 := Tryd.zeroValue171 }
end Go.Proofs.YtgmeagkolahkoaaDoor

/- Layer 10: SortFunc by the library's contract; Compact; Of. -/
namespace Go.Proofs.YtgmeagkolahkoaaDoor
open Go.RowKit

theorem rd_box {w : World} {g : Nat} {t : TypeId} {l : List Nat} (h : Blk w g t (u8s l)) : Rd w (some ⟨g, 0, none⟩) (l.map bv) := by
  have := Rd.of_blk0 h
  simpa [u8s] using this
set_option maxRecDepth 100000 in
/-- Sum.Cmp, its world to the letter. -/
theorem cmpW (x y : Sm) (w : World) : Calls Tryd.prog 38 #[.agg (u8s x.l), .agg (u8s y.l)] w fun e w' => e = .returned (.int .i64 (cmpL x.l y.l)) ∧ ∃ q os, w' = Sort.grow (w.drewN q) os := by
  have h0 : Blk ((w.alloc (.cells (u8s x.l) 25)).alloc (.cells (u8s y.l) 25)) w.heap.size 25 (u8s x.l) := (Blk.new w _ _).alloc _
  have h1 : Blk ((w.alloc (.cells (u8s x.l) 25)).alloc (.cells (u8s y.l) 25)) (w.heap.size + 1) 25 (u8s y.l) := Blk.newAt (w.alloc _) _ _ _ (by simp)
  have hc : ∀ n, Calls Tryd.prog 68 #[.slice (some ⟨w.heap.size, 0, none⟩) 32 32, .slice (some ⟨w.heap.size + 1, 0, none⟩) 32 32] (((w.alloc (.cells (u8s x.l) 25)).alloc (.cells (u8s y.l) 25)).drewN n)
      fun e w' => e = .returned (.int .i64 (cmpL x.l y.l)) ∧ w' = (((w.alloc (.cells (u8s x.l) 25)).alloc (.cells (u8s y.l) 25)).drewN n) := fun n =>
    Compare_any _ _ 32 32 32 32 x.l y.l _ x.len y.len (rd_box (h0.drewN n)) (rd_box (h1.drewN n)) (by simp) (by simp) x.lt y.lt
  have HC := Lib.hid hc
  clear hc h0 h1
  generalize cmpL x.l y.l = r at *
  go_enter Tryd.func38, Tryd.ntmps38
  go_wp2_with fail
  go_quiet ((go_at_call 68; exact Calls.quiet_of_same (HC.out _)))
  go_wp2_with fail
  go_ret
  exact ⟨rfl, _, _, by rw [Sort.alloc_eq_grow, Sort.alloc_eq_grow, Sort.grow_grow]; rfl⟩

/-! ### Sorted -/
def ltS (x y : Sm) : Bool := decide (cmpL x.l y.l < 0)
def sortL (D : List Sm) : List Sm := D.mergeSort fun x y => !ltS y x
theorem sortL_len (D : List Sm) : (sortL D).length = D.length := by simp [sortL]
theorem ltS_swo : Sort.SWO (ltOf fun x y : Sm => cmpL x.l y.l) where
  irrefl x := by
    show decide (cmpL x.l x.l < 0) = false
    rw [(cmpL_eq x.l x.l).2 rfl]
    rfl
  trans x y z h1 h2 := by
    unfold ltOf at *
    simp only [decide_eq_true_eq] at *
    exact (cmpL_trans x.l y.l z.l (by omega) (by omega)).2 (.inl h1)
  ntrans x y z h1 h2 := by
    unfold ltOf at *
    simp only [decide_eq_false_iff_not] at *
    have s1 := cmpL_swap x.l y.l
    have s2 := cmpL_swap y.l z.l
    have s3 := cmpL_swap x.l z.l
    have := (cmpL_trans z.l y.l x.l (by omega) (by omega)).1
    omega
theorem flatK_flat (D : List Sm) : Sort.flatK Sm.enc 32 D.toArray = (flat D).toArray := by
  refine Sort.ext_get! (by simp [flat_len]) fun t ht => ?_
  have ht' : t < D.length * 32 := by simpa using ht
  have hq : t / 32 < D.length := by omega
  rw [Sort.get_flatK _ _ _ _ (by simpa using ht')]
  have e1 : D.toArray[t / 32]! = D.getD (t / 32) default := by simp [List.getD, hq]
  have hfl := flat_at D hq
  have hg : (flat D)[t]? = (D.getD (t / 32) default).enc[t % 32]? := by
    have h1 : ((flat D).drop (t / 32 * 32))[t % 32]? = (flat D)[t]? := by rw [List.getElem?_drop]; congr 1; omega
    rw [← h1, hfl, List.getElem?_append_left (by rw [enc_len]; omega)]
  rw [e1]
  have h2 : t % 32 < (D.getD (t / 32) default).enc.length := by rw [enc_len]; omega
  have h3 : t < (flat D).length := by rw [flat_len]; exact ht'
  rw [getElem!_pos (D.getD (t / 32) default).enc (t % 32) h2]
  rw [getElem!_pos (flat D).toArray t (by simpa using h3)]
  rw [List.getElem?_eq_getElem h3, List.getElem?_eq_getElem h2] at hg
  injection hg with hg
  simpa using hg.symm
theorem holds_seg {w : World} {e : TypeId} {g off cap : Nat} {D : List Sm} (h : SegL w e 32 g off D.length cap (flat D)) : Sort.HoldsK Sm.enc 32 w g off D.toArray := by
  obtain ⟨hl, hn, hm, cs, hb, hs, hx⟩ := h
  unfold Sort.HoldsK
  rw [flatK_flat]
  intro j hj
  have hj' : j < (flat D).length := by simpa using hj
  have hj2 : j < D.length * 32 := by rw [← flat_len]; exact hj'
  refine ⟨?_, hb.frozen _⟩
  rw [hb.cell, hx j hj2, List.getElem?_eq_getElem hj', getElem!_pos (flat D).toArray j hj]
  simp
theorem seg_sorted {w : World} {e : TypeId} {g off cap n : Nat} {D : List Sm} (D' : List Sm) (os : Array Obj) (h : SegL w e 32 g off D.length cap (flat D)) (hl' : D'.length = D.length) :
    SegL (sortWorldK Sm.enc 32 w g off n D'.toArray os) e 32 g off D.length cap (flat D') ∧ Keeps [g] w (sortWorldK Sm.enc 32 w g off n D'.toArray os) := by
  obtain ⟨hl, hn, hm, cs, hb, hs, hx⟩ := h
  have hle : D.length * 32 ≤ cap * 32 := Nat.mul_le_mul_right _ hn
  unfold sortWorldK Sort.putRowK
  rw [flatK_flat]
  have hfl : (flat D').length = D.length * 32 := by rw [flat_len, hl']
  have hsz : ∀ W : World, (Sort.putRow id W g off (flat D').toArray).heap.size = W.heap.size := fun W => Sort.size_putRow id W g off _
  have hblk : (Sort.grow (Sort.putRow id (Sort.ahead w n) g off (flat D').toArray) os).heap[g]? = some (.cells (Sort.putCells id off (flat D').toArray cs) e (0, 0)) := by
    have hgl : g < (Sort.putRow id (Sort.ahead w n) g off (flat D').toArray).heap.size := by rw [hsz]; exact hb.lt
    unfold Sort.grow
    simp only []
    rw [Array.getElem?_append_left hgl]
    unfold Sort.putRow Sort.mapBlock
    simp only [Array.getElem?_modify, if_true]
    have : (Sort.ahead w n).heap[g]? = w.heap[g]? := rfl
    rw [this]
    unfold Blk at hb
    rw [hb]
    rfl
  refine ⟨⟨hfl, hn, hm, _, hblk, by simpa [Sort.putCells] using hs, fun j hj => ?_⟩, ⟨rfl, rfl, rfl, ?_, fun k hk hne => ?_⟩⟩
  · unfold Sort.putCells
    have hoj : off + j < cs.size := by omega
    rw [Array.getElem?_mapIdx, Array.getElem?_eq_getElem hoj]
    simp only [Option.map_some]
    have hjf : j < (flat D').length := by omega
    rw [if_pos (by simp; omega), show off + j - off = j by omega, getElem!_pos (flat D').toArray j (by simpa using hjf), List.getElem?_eq_getElem hjf]
    simp
  · show w.heap.size ≤ ((Sort.putRow id (Sort.ahead w n) g off (flat D').toArray).heap ++ os).size
    rw [Array.size_append, hsz]
    exact Nat.le_add_right _ _
  · show ((Sort.putRow id (Sort.ahead w n) g off (flat D').toArray).heap ++ os)[k]? = w.heap[k]?
    rw [Array.getElem?_append_left (by rw [hsz]; exact hk)]
    unfold Sort.putRow Sort.mapBlock
    simp only [Array.getElem?_modify]
    rw [if_neg (fun h => hne (by simp [h]))]
    rfl
theorem sort_any (D : List Sm) (w : World) (g off cap : Nat) (hs : SegL w 25 32 g off D.length cap (flat D)) (hD : D.length ≤ 1000000) :
    Calls Tryd.prog 37 #[.slice (some ⟨g, off, none⟩) D.length cap, .func (.func 38) #[] #[]] w fun e w' => ∃ u, e = .returned u ∧ SegL w' 25 32 g off D.length cap (flat (sortL D)) ∧ Keeps [g] w w' := by
  have h := AnyQ.slices_SortFunc_total laysSortS 32 Tryd.isAgg25 Tryd.sizeOf25 Sm.enc enc_len (fun x v hv => enc_one x v hv) (fun x y : Sm => cmpL x.l y.l) ltS_swo 38 #[] g off cap D.toArray w (fun args w => by kernel_rfl)
    (fun _ _ _ _ x y => cmpW x y _) (holds_seg hs) hs.lt (by simp; omega) (fun x y h1 h2 => by
      unfold ltOf at h1 h2
      simp only [decide_eq_false_iff_not] at h1 h2
      have h3 := cmpL_swap x.l y.l
      exact Sm.ext_l ((cmpL_eq x.l y.l).1 (by omega)))
  refine Calls.mono h fun e w' ⟨he, n, os, hw⟩ => ⟨_, he, ?_⟩
  subst hw
  exact seg_sorted (sortL D) os hs (sortL_len D)
theorem sort_none (w : World) : Calls Tryd.prog 37 #[.slice none 0 0, .func (.func 38) #[] #[]] w fun e w' => ∃ u, e = .returned u ∧ w' = w :=
  Calls.mono (AnyF.slices_SortFunc_none laysSortS none 0 (.func (.func 38) #[] #[]) w) fun _ _ ⟨h1, h2⟩ => ⟨_, h1, h2⟩
end Go.Proofs.YtgmeagkolahkoaaDoor

/- Layer 10: the walks of Compact, Of. -/
namespace Go.Proofs.YtgmeagkolahkoaaDoor
open Go.RowKit

/-- The first m, of alike neighbours only the first. -/
def ddL (D : List Sm) : Nat → List Sm
  | 0 => []
  | m + 1 => if m = 0 ∨ ¬ D.getD m default = D.getD (m - 1) default then ddL D m ++ [D.getD m default] else ddL D m
theorem ddL_le (D : List Sm) : ∀ m, (ddL D m).length ≤ m
  | 0 => Nat.le_refl _
  | m + 1 => by
    have := ddL_le D m
    unfold ddL
    split
    · simp; omega
    · omega
theorem ddL_new {D : List Sm} {m : Nat} (h : m = 0 ∨ ¬ D.getD m default = D.getD (m - 1) default) : ddL D (m + 1) = ddL D m ++ [D.getD m default] := by
  rw [ddL, if_pos h]
theorem ddL_old {D : List Sm} {m : Nat} (h0 : m ≠ 0) (h : D.getD m default = D.getD (m - 1) default) : ddL D (m + 1) = ddL D m := by
  rw [ddL, if_neg (by rintro (h1 | h1); exact h0 h1; exact h1 h)]
theorem take_snoc' (D : List Sm) {m : Nat} (h : m < D.length) : D.take (m + 1) = D.take m ++ [D.getD m default] := by
  rw [List.take_succ_eq_append_getElem h]
  simp [List.getD, List.getElem?_eq_getElem h]
theorem getD_set (D : List Sm) {i j : Nat} (x : Sm) (hi : i < D.length) : (D.set i x).getD j default = if i = j then x else D.getD j default := by
  simp only [List.getD, List.getElem?_set]
  by_cases h : i = j
  · subst h; simp [hi]
  · simp [h]
theorem getD_drop (D : List Sm) (k j : Nat) : (D.drop k).getD j default = D.getD (k + j) default := by
  simp [List.getD, List.getElem?_drop]

set_option maxRecDepth 100000 in
set_option maxHeartbeats 2000000 in
theorem compact_any (D : List Sm) (w : World) (g off cap : Nat) (hs0 : SegL w 25 32 g off D.length cap (flat D)) (hD : D.length ≤ 1000000) :
    Calls Tryd.prog 39 #[.slice (some ⟨g, off, none⟩) D.length cap] w fun e w' => ∃ k, e = .returned (.slice (some ⟨g, off, none⟩) k cap) ∧ k = (ddL D D.length).length ∧ SegL w' 25 32 g off k cap (flat (ddL D D.length)) ∧ Keeps [g] w w' := by
  have hcap : D.length ≤ cap := hs0.2.1
  refine enter_ty 61 [Ty.ex (.slice (some ⟨g, off, none⟩) D.length cap)] Tryd.func39 rfl (by kernel_rfl) ⟨rfl, trivial⟩ fun a hF => ?_
  have hB := Below.refl w.heap.size w
  repeat with_reducible refine wp_seq ?_
  refine' reg_all hF ?_ mixed (by kernel_rfl) ?_
  rotate_left
  · repeat (first | exact Line.nil | ((refine' Line.cons rfl (.run rfl rfl ?_) ?_); (any_goals exact cAssign rfl rfl); rotate_left))
  intro a w1 hF hb hN
  have hBs := hB.size
  replace hB := hB.trans (hb.mono hB.size)
  dsimp only [ext, Option.getD] at hF
  repeat with_reducible first | refine wp_seq ?_ | refine nThen ?_
  refine' reg_all hF ?_ mixed (by kernel_rfl) ?_
  rotate_left
  · repeat (first | exact Line.nil | ((refine' Line.cons rfl (.run rfl rfl ?_) ?_); (any_goals (first | exact cLenEx rfl rfl Tryd.underlying33 | exact cMove rfl rfl | exact cLss rfl rfl rfl)); rotate_left))
  intro a w2 hF hb hN
  have hBs := hB.size
  replace hB := hB.trans (hb.mono hB.size)
  dsimp only [ext, Option.getD] at hF
  repeat with_reducible refine nThen ?_
  refine cond_ty hF rfl (fun h0 => ?_) (fun h1 => ?_)
  · have h0 := of_decide_eq_true h0
    have hdd : ddL D D.length = D := by
      match D, h0 with
      | [], _ => rfl
      | [x], _ => simp [ddL]
      | x :: y :: r, h => simp at h; omega
    repeat with_reducible refine wp_seq ?_
    refine' reg_all hF ?_ mixed (by kernel_rfl) ?_
    rotate_left
    · repeat (first | exact Line.nil | ((refine' Line.cons rfl (.run rfl rfl ?_) ?_); (any_goals (first | exact cMove rfl rfl | exact cAssign rfl rfl)); rotate_left))
    intro a w3 hF hb hN
    have hBs := hB.size
    replace hB := hB.trans (hb.mono hB.size)
    dsimp only [ext, Option.getD] at hF
    repeat with_reducible first | refine nThen ?_ | refine wp_ret ?_ | refine rThen ?_
    refine ret1 hF rfl rfl fun z hz => ?_
    have hz : z = .slice (some ⟨g, off, none⟩) D.length cap := hz
    subst hz
    rw [hdd]
    exact ⟨D.length, rfl, rfl, hs0.below hB, Keeps.of_below hB⟩
  have h1 := of_decide_eq_false h1
  repeat with_reducible first | refine wp_seq ?_ | refine nThen ?_ | refine wp_skip ?_
  refine' reg_all hF ?_ mixed (by kernel_rfl) ?_
  rotate_left
  · repeat (first | exact Line.nil | ((refine' Line.cons rfl (.run rfl rfl ?_) ?_); (any_goals exact cAssign rfl rfl); rotate_left))
  intro a w3 hF hb hN
  have hBs := hB.size
  replace hB := hB.trans (hb.mono hB.size)
  dsimp only [ext, Option.getD] at hF
  repeat with_reducible first | refine nThen ?_ | refine wp_block ?_
  refine loop_ty (fun m a wr => ∃ k : Nat, k + m = D.length ∧ 1 ≤ k ∧ Fr 61 [(0, Ty.ex (.slice (some ⟨g, off, none⟩) D.length cap)), (3, Ty.ex (.int .i64 (k : Int)))] a wr ∧ Below w.heap.size w wr ∧ ddL D k = D.take k) (D.length - 1) ?_ ?_
  · refine ⟨1, by omega, Nat.le_refl _, hF.keep [0, 3], hB, ?_⟩
    rw [ddL_new (.inl rfl), take_snoc' D (by omega)]
    rfl
  clear hF hB
  rintro m a wr ⟨k, hk, hk1, hF, hB, hdd⟩
  repeat with_reducible refine wp_seq ?_
  refine' reg_all hF ?_ mixed (by kernel_rfl) ?_
  rotate_left
  · repeat (first | exact Line.nil | ((refine' Line.cons rfl (.run rfl rfl ?_) ?_); (any_goals (first | exact cLenEx rfl rfl Tryd.underlying33 | exact cMove rfl rfl | exact cLss rfl rfl rfl)); rotate_left))
  intro a w4 hF hb hN
  have hBs := hB.size
  replace hB := hB.trans (hb.mono hB.size)
  dsimp only [ext, Option.getD] at hF
  repeat with_reducible refine nThen ?_
  refine cond_ty hF rfl (fun hlt => ?_) (fun hge => ?_)
  rotate_left
  · have hge : ¬ k < D.length := by simpa using hge
    obtain rfl : k = D.length := by omega
    rw [List.take_length] at hdd
    repeat with_reducible first | refine wp_seq ?_ | refine nThen ?_ | refine wp_exit ?_ | refine xThen ?_ | refine xHere ?_
    refine' reg_all hF ?_ mixed (by kernel_rfl) ?_
    rotate_left
    · repeat (first | exact Line.nil | ((refine' Line.cons rfl (.run rfl rfl ?_) ?_); (any_goals (first | exact cMove rfl rfl | exact cAssign rfl rfl)); rotate_left))
    intro a w5 hF hb hN
    have hBs := hB.size
    replace hB := hB.trans (hb.mono hB.size)
    dsimp only [ext, Option.getD] at hF
    repeat with_reducible first | refine nThen ?_ | refine wp_ret ?_
    refine ret1 hF rfl rfl fun z hz => ?_
    have hz : z = .slice (some ⟨g, off, none⟩) D.length cap := hz
    subst hz
    rw [hdd]
    exact ⟨D.length, rfl, rfl, hs0.below hB, Keeps.of_below hB⟩
  have hlt : k < D.length := by simpa using hlt
  have hsl : (Ty.sums 25 D).p w4 (.slice (some ⟨g, off, none⟩) D.length cap) := (hs0.below hB).sl
  repeat with_reducible first | refine wp_seq ?_ | refine nThen ?_ | refine wp_skip ?_ | refine wp_block ?_
  refine' reg_all hF ?_ mixed (by kernel_rfl) ?_
  rotate_left
  · repeat (first | exact Line.nil | ((refine' Line.cons rfl (.run rfl rfl ?_) ?_); (any_goals (first | exact cSub (r := ((k - 1 : Nat) : Int)) rfl rfl rfl (by omega) | exact cIndexSum (k := k - 1) rfl (.l rfl hsl) rfl Tryd.underlying33 sizeS (by omega) | exact cIndexSum (k := k) rfl (.l rfl hsl) rfl Tryd.underlying33 sizeS hlt | exact cLoadSum rfl (.t rfl) Tryd.underlying25 sizeS | exact cEqlAgg rfl rfl rfl guardS (eqlS _ _) | exact cMove rfl rfl)); rotate_left))
  intro a w5 hF hb hN
  have hBs := hB.size
  replace hB := hB.trans (hb.mono hB.size)
  dsimp only [ext, Option.getD] at hF
  repeat with_reducible refine nThen ?_
  refine cond_ty hF rfl (fun hdup => ?_) (fun hnew => ?_)
  rotate_left
  · have hnew : ¬ D.getD k default = D.getD (k - 1) default := by simpa using hnew
    repeat with_reducible first | refine nThen ?_ | refine nBlk ?_ | refine wp_skip ?_
    refine' reg_all hF ?_ mixed (by kernel_rfl) ?_
    rotate_left
    · repeat (first | exact Line.nil | ((refine' Line.cons rfl (.run rfl rfl ?_) ?_); (any_goals (first | exact cAdd (r := ((k + 1 : Nat) : Int)) rfl rfl rfl (by omega) | exact cMove rfl rfl | exact cAssign rfl rfl)); rotate_left))
    intro a w6 hF hb hN
    have hBs := hB.size
    replace hB := hB.trans (hb.mono hB.size)
    dsimp only [ext, Option.getD] at hF
    repeat with_reducible refine nThen ?_
    refine ⟨m - 1, by omega, k + 1, by omega, by omega, hF.keep [0, 3], hB, ?_⟩
    rw [ddL_new (.inr hnew), hdd, take_snoc' D hlt]
  have hdup : D.getD k default = D.getD (k - 1) default := by simpa using hdup
  repeat with_reducible refine wp_seq ?_
  refine' reg_all hF ?_ mixed (by kernel_rfl) ?_
  rotate_left
  · repeat (first | exact Line.nil | ((refine' Line.cons rfl (.run rfl rfl ?_) ?_); (any_goals (first | exact cSliceLoEx rfl rfl rfl Tryd.underlying33 sizeS hlt hcap | exact cMove rfl rfl | exact cAssign rfl rfl)); rotate_left))
  intro a w6 hF hb hN
  have hBs := hB.size
  replace hB := hB.trans (hb.mono hB.size)
  dsimp only [ext, Option.getD] at hF
  repeat with_reducible first | refine wp_seq ?_ | refine nThen ?_
  refine' reg_all hF ?_ mixed (by kernel_rfl) ?_
  rotate_left
  · repeat (first | exact Line.nil | ((refine' Line.cons rfl (.run rfl rfl ?_) ?_); (any_goals exact cAssign rfl rfl); rotate_left))
  intro a w7 hF hb hN
  have hBs := hB.size
  replace hB := hB.trans (hb.mono hB.size)
  dsimp only [ext, Option.getD] at hF
  repeat with_reducible first | refine nThen ?_ | refine wp_block ?_
  refine loop_ty (fun m a wr => ∃ (q j : Nat) (E : List Sm), k + q + m = D.length ∧ 1 ≤ q ∧ E.length = D.length ∧ j = (ddL D (k + q)).length ∧ j ≤ k + q - 1 ∧ E.take j = ddL D (k + q) ∧ (∀ i, k + q - 1 ≤ i → E.getD i default = D.getD i default) ∧
      Fr 61 [(0, Ty.ex (.slice (some ⟨g, off, none⟩) D.length cap)), (4, Ty.ex (.slice (some ⟨g, off + k * 32, none⟩) (D.length - k) (cap - k))), (3, Ty.ex (.int .i64 (j : Int))), (5, Ty.ex (.int .i64 (q : Int)))] a wr ∧ SegL wr 25 32 g off D.length cap (flat E) ∧ Keeps [g] w wr) (D.length - (k + 1)) ?_ ?_
  · refine ⟨1, k, D, by omega, Nat.le_refl _, rfl, ?_, by omega, ?_, fun i _ => rfl, hF.keep [0, 4, 3, 5], hs0.below hB, Keeps.of_below hB⟩
    · rw [ddL_old (by omega) hdup, hdd]; simp; omega
    · rw [ddL_old (by omega) hdup, hdd]
  clear hF hB hsl hs0
  rintro m a wr ⟨q, j, E, hq, hq1, hE, hj, hjle, hjt, hsame, hF, hseg, hKw⟩
  have hB := Below.refl wr.heap.size wr
  have hs2 : (Ty.sums 25 (E.drop k)).p wr (.slice (some ⟨g, off + k * 32, none⟩) (D.length - k) (cap - k)) := by
    have h := hseg.drop_sl (k := k) (by omega)
    rw [flat_drop] at h
    show SlP _ _ _ (E.drop k).length _
    rw [List.length_drop, hE]
    exact h
  repeat with_reducible refine wp_seq ?_
  refine' reg_all hF ?_ mixed (by kernel_rfl) ?_
  rotate_left
  · repeat (first | exact Line.nil | ((refine' Line.cons rfl (.run rfl rfl ?_) ?_); (any_goals (first | exact cLenEx rfl rfl Tryd.underlying33 | exact cMove rfl rfl | exact cLss rfl rfl rfl)); rotate_left))
  intro a w8 hF hb hN
  have hBs := hB.size
  replace hB := hB.trans (hb.mono hB.size)
  dsimp only [ext, Option.getD] at hF
  repeat with_reducible refine nThen ?_
  refine cond_ty hF rfl (fun hlt2 => ?_) (fun hge2 => ?_)
  rotate_left
  · have hge2 : ¬ q < D.length - k := by simpa using hge2
    have hend : k + q = D.length := by omega
    rw [hend] at hj hjt
    have hjn : j < D.length := by omega
    repeat with_reducible first | refine wp_seq ?_ | refine nThen ?_ | refine wp_exit ?_ | refine xThen ?_ | refine xHere ?_
    refine' region_ty 3 mixed (by kernel_rfl) hF ?_ ?_
    rotate_left
    · simp only [List.take_succ_cons, List.take_zero]
      repeat (first | exact Line.nil | ((refine' Line.cons rfl (.run rfl rfl ?_) ?_); (any_goals (first | exact cSliceLoEx rfl rfl rfl Tryd.underlying33 sizeS hjn hcap | exact cMove rfl rfl)); rotate_left))
    intro a w9 hF hb hN
    have hBs := hB.size
    replace hB := hB.trans (hb.mono hB.size)
    simp only [List.take_succ_cons, List.take_zero, List.drop_succ_cons, List.drop_zero] at hF hN ⊢
    dsimp only [ext, Option.getD] at hF
    refine tlClear (Δ := [(0, Ty.ex (.slice (some ⟨g, off, none⟩) D.length cap)), (3, Ty.ex (.int .i64 (j : Int)))]) (k := j) hF rfl rfl rfl rfl Tryd.underlying33 infoS zero32_size zeroS_one (hseg.below hB) (by omega) (hF.keep [0, 3]) rfl ?_
    intro w10 zs hzl hF hseg2 hk2
    refine wpList_nil ?_
    repeat with_reducible first | refine wp_seq ?_ | refine nThen ?_
    replace hKw : Keeps [g] w w10 := (hKw.trans (Keeps.of_below hB)).trans hk2
    have hB := Below.refl w10.heap.size w10
    refine' reg_all hF ?_ mixed (by kernel_rfl) ?_
    rotate_left
    · repeat (first | exact Line.nil | ((refine' Line.cons rfl (.run rfl rfl ?_) ?_); (any_goals (first | exact cSliceHiEx rfl rfl rfl Tryd.underlying33 sizeS (by omega) | exact cMove rfl rfl | exact cAssign rfl rfl)); rotate_left))
    intro a w11 hF hb hN
    have hBs := hB.size
    replace hB := hB.trans (hb.mono hB.size)
    dsimp only [ext, Option.getD] at hF
    repeat with_reducible first | refine nThen ?_ | refine wp_ret ?_ | refine rThen ?_ | refine rBlk ?_
    refine ret1 hF rfl rfl fun z hz => ?_
    have hz : z = .slice (some ⟨g, off, none⟩) j cap := hz
    subst hz
    refine ⟨j, rfl, hj, ?_, hKw.trans (Keeps.of_below hB)⟩
    have h5 := (hseg2.below hB).take (k := j) (by omega)
    have h6 : (over (flat E) (j * 32) zs).take (j * 32) = flat (ddL D D.length) := by
      unfold over
      rw [List.append_assoc, List.take_append_of_le_length (by rw [List.length_take, flat_len]; omega), List.take_take, Nat.min_self, flat_take, hjt]
    rwa [h6] at h5
  have hlt2 : q < D.length - k := by simpa using hlt2
  have hs2' := (Ty.sums 25 (E.drop k)).below hs2 hB
  have e1 : (E.drop k).getD q default = D.getD (k + q) default := by rw [getD_drop]; exact hsame _ (by omega)
  have e2 : (E.drop k).getD (q - 1) default = D.getD (k + q - 1) default := by rw [getD_drop, show k + (q - 1) = k + q - 1 by omega]; exact hsame _ (by omega)
  repeat with_reducible first | refine wp_seq ?_ | refine nThen ?_ | refine wp_skip ?_ | refine wp_block ?_
  refine' reg_all hF ?_ mixed (by kernel_rfl) ?_
  rotate_left
  · repeat (first | exact Line.nil | ((refine' Line.cons rfl (.run rfl rfl ?_) ?_); (any_goals (first | exact cSub (r := ((q - 1 : Nat) : Int)) rfl rfl rfl (by omega) | exact cIndexSum (k := q - 1) rfl (.l rfl hs2') rfl Tryd.underlying33 sizeS (by simp; omega) | exact cIndexSum (k := q) rfl (.l rfl hs2') rfl Tryd.underlying33 sizeS (by simp; omega) | exact cLoadSum rfl (.t rfl) Tryd.underlying25 sizeS | exact cNeqAgg rfl rfl rfl guardS (neqS _ _) | exact cMove rfl rfl)); rotate_left))
  intro a w9 hF hb hN
  have hBs := hB.size
  replace hB := hB.trans (hb.mono hB.size)
  dsimp only [ext, Option.getD] at hF
  repeat with_reducible refine nThen ?_
  rw [e1, e2] at hF
  refine cond_ty hF rfl (fun hnew => ?_) (fun hold => ?_)
  · have hnew : ¬ D.getD (k + q) default = D.getD (k + q - 1) default := by simpa using hnew
    have hs3 := (Ty.sums 25 (E.drop k)).below hs2 hB
    repeat with_reducible refine wp_seq ?_
    refine' region_ty 7 mixed (by kernel_rfl) hF ?_ ?_
    rotate_left
    · simp only [List.take_succ_cons, List.take_zero]
      repeat (first | exact Line.nil | ((refine' Line.cons rfl (.run rfl rfl ?_) ?_); (any_goals (first | exact cIndexSum (k := q) rfl (.l rfl hs3) rfl Tryd.underlying33 sizeS (by simp; omega) | exact cLoadSum rfl (.t rfl) Tryd.underlying25 sizeS | exact cIndexEx (k := j) rfl rfl rfl Tryd.underlying33 sizeS (by omega) | exact cMove rfl rfl)); rotate_left))
    intro a w10 hF hb hN
    have hBs := hB.size
    replace hB := hB.trans (hb.mono hB.size)
    simp only [List.take_succ_cons, List.take_zero, List.drop_succ_cons, List.drop_zero] at hF hN ⊢
    dsimp only [ext, Option.getD] at hF
    rw [e1] at hF
    refine tlStoreAt (Δ := [(0, Ty.ex (.slice (some ⟨g, off, none⟩) D.length cap)), (4, Ty.ex (.slice (some ⟨g, off + k * 32, none⟩) (D.length - k) (cap - k))), (3, Ty.ex (.int .i64 (j : Int))), (5, Ty.ex (.int .i64 (q : Int)))]) (k := j * 32) hF rfl rfl rfl rfl rfl (hseg.below hB) (by rw [u8s_size, Sm.len]; omega) (by rw [u8s_size, Sm.len]; exact sizeS) (u8s_one _) (hF.keep [0, 4, 3, 5]) rfl ?_
    intro w11 hF hseg2 hk2
    refine wpList_nil ?_
    repeat with_reducible refine nThen ?_
    replace hKw : Keeps [g] w w11 := (hKw.trans (Keeps.of_below hB)).trans hk2
    have hB := Below.refl w11.heap.size w11
    refine' reg_all hF ?_ mixed (by kernel_rfl) ?_
    rotate_left
    · repeat (first | exact Line.nil | ((refine' Line.cons rfl (.run rfl rfl ?_) ?_); (any_goals (first | exact cAdd (r := ((j + 1 : Nat) : Int)) rfl rfl rfl (by omega) | exact cMove rfl rfl | exact cAssign rfl rfl)); rotate_left))
    intro a w12 hF hb hN
    have hBs := hB.size
    replace hB := hB.trans (hb.mono hB.size)
    dsimp only [ext, Option.getD] at hF
    repeat with_reducible first | refine nThen ?_ | refine nBlk ?_
    refine' reg_all hF ?_ mixed (by kernel_rfl) ?_
    rotate_left
    · repeat (first | exact Line.nil | ((refine' Line.cons rfl (.run rfl rfl ?_) ?_); (any_goals (first | exact cAdd (r := ((q + 1 : Nat) : Int)) rfl rfl rfl (by omega) | exact cMove rfl rfl | exact cAssign rfl rfl)); rotate_left))
    intro a w13 hF hb hN
    have hBs := hB.size
    replace hB := hB.trans (hb.mono hB.size)
    dsimp only [ext, Option.getD] at hF
    repeat with_reducible refine nThen ?_
    have h7 : over (flat E) (j * 32) (u8s (D.getD (k + q) default).l).toList = flat (E.set j (D.getD (k + q) default)) := by
      rw [u8s_list]
      exact over_flat E _ (by omega)
    rw [h7] at hseg2
    have hdd2 : ddL D (k + (q + 1)) = ddL D (k + q) ++ [D.getD (k + q) default] := ddL_new (.inr hnew)
    refine ⟨m - 1, by omega, q + 1, j + 1, E.set j (D.getD (k + q) default), by omega, by omega, by simp [hE], ?_, by omega, ?_, fun i hi => ?_, hF.keep [0, 4, 3, 5], hseg2.below hB, hKw.trans (Keeps.of_below hB)⟩
    · rw [hdd2, List.length_append, ← hj]; rfl
    · rw [hdd2, ← hjt, take_snoc' _ (by rw [List.length_set]; omega), getD_set E _ (by omega), if_pos rfl, List.take_set_of_le (Nat.le_refl _)]
    · rw [getD_set E _ (by omega), if_neg (by omega)]
      exact hsame i (by omega)
  · have hold : D.getD (k + q) default = D.getD (k + q - 1) default := by simpa using hold
    repeat with_reducible first | refine nThen ?_ | refine nBlk ?_ | refine wp_skip ?_
    refine' reg_all hF ?_ mixed (by kernel_rfl) ?_
    rotate_left
    · repeat (first | exact Line.nil | ((refine' Line.cons rfl (.run rfl rfl ?_) ?_); (any_goals (first | exact cAdd (r := ((q + 1 : Nat) : Int)) rfl rfl rfl (by omega) | exact cMove rfl rfl | exact cAssign rfl rfl)); rotate_left))
    intro a w10 hF hb hN
    have hBs := hB.size
    replace hB := hB.trans (hb.mono hB.size)
    dsimp only [ext, Option.getD] at hF
    repeat with_reducible refine nThen ?_
    have hdd2 : ddL D (k + (q + 1)) = ddL D (k + q) := ddL_old (m := k + q) (by omega) hold
    exact ⟨m - 1, by omega, q + 1, j, E, by omega, by omega, hE, by rw [hdd2]; exact hj, by omega, by rw [hdd2]; exact hjt, fun i hi => hsame i (by omega), hF.keep [0, 4, 3, 5], hseg.below hB, hKw.trans (Keeps.of_below hB)⟩

set_option maxRecDepth 100000 in
theorem compact_none (w : World) : Calls Tryd.prog 39 #[.slice none 0 0] w fun e w' => e = .returned (.slice none 0 0) ∧ Below w.heap.size w w' := by
  refine enter_ty 61 [Ty.ex (.slice none 0 0)] Tryd.func39 rfl (by kernel_rfl) ⟨rfl, trivial⟩ fun a hF => ?_
  have hB := Below.refl w.heap.size w
  repeat with_reducible refine wp_seq ?_
  refine' reg_all hF ?_ mixed (by kernel_rfl) ?_
  rotate_left
  · repeat (first | exact Line.nil | ((refine' Line.cons rfl (.run rfl rfl ?_) ?_); (any_goals exact cAssign rfl rfl); rotate_left))
  intro a w1 hF hb hN
  have hBs := hB.size
  replace hB := hB.trans (hb.mono hB.size)
  dsimp only [ext, Option.getD] at hF
  repeat with_reducible first | refine wp_seq ?_ | refine nThen ?_
  refine' reg_all hF ?_ mixed (by kernel_rfl) ?_
  rotate_left
  · repeat (first | exact Line.nil | ((refine' Line.cons rfl (.run rfl rfl ?_) ?_); (any_goals (first | exact cLenEx rfl rfl Tryd.underlying33 | exact cMove rfl rfl | exact cLss rfl rfl rfl)); rotate_left))
  intro a w2 hF hb hN
  have hBs := hB.size
  replace hB := hB.trans (hb.mono hB.size)
  dsimp only [ext, Option.getD] at hF
  repeat with_reducible refine nThen ?_
  refine cond_ty hF rfl (fun h0 => ?_) (fun h1 => ?_)
  · repeat with_reducible refine wp_seq ?_
    refine' reg_all hF ?_ mixed (by kernel_rfl) ?_
    rotate_left
    · repeat (first | exact Line.nil | ((refine' Line.cons rfl (.run rfl rfl ?_) ?_); (any_goals (first | exact cMove rfl rfl | exact cAssign rfl rfl)); rotate_left))
    intro a w3 hF hb hN
    have hBs := hB.size
    replace hB := hB.trans (hb.mono hB.size)
    dsimp only [ext, Option.getD] at hF
    repeat with_reducible first | refine nThen ?_ | refine wp_ret ?_ | refine rThen ?_
    refine ret1 hF rfl rfl fun z hz => ?_
    have hz : z = .slice none 0 0 := hz
    subst hz
    exact ⟨rfl, hB⟩
  · exact absurd (of_decide_eq_false h1) (by decide)

/-- A set's row: sorted, each once. -/
def setL (D : List Sm) : List Sm := ddL (sortL D) D.length
theorem setL_len (D : List Sm) : (setL D).length ≤ D.length := ddL_le _ _
set_option maxRecDepth 100000 in
set_option maxHeartbeats 1000000 in
theorem of_ty (D : List Sm) (hD : D.length ≤ 1000000) : FnSeg1 Tryd.prog 21 (Ty.sums 25 D) 25 32 (setL D).length (flat (setL D)) := by
  refine ⟨fun args w => by kernel_rfl, fun w v hv => ?_⟩
  refine enter_ty 10 [Ty.sums 25 D] Tryd.func21 rfl (by kernel_rfl) ⟨hv, trivial⟩ fun a hF => ?_
  have hB := Below.refl w.heap.size w
  repeat with_reducible refine wp_seq ?_
  refine' reg_all hF ?_ mixed (by kernel_rfl) ?_
  rotate_left
  · repeat (first | exact Line.nil | ((refine' Line.cons rfl (.run rfl rfl ?_) ?_); (any_goals exact cAssign rfl rfl); rotate_left))
  intro a w1 hF hb hN
  have hBs := hB.size
  replace hB := hB.trans (hb.mono hB.size)
  dsimp only [ext, Option.getD] at hF
  repeat with_reducible first | refine wp_seq ?_ | refine nThen ?_
  refine' reg_all hF ?_ mixed (by kernel_rfl) ?_
  rotate_left
  · repeat (first | exact Line.nil | ((refine' Line.cons rfl (.run rfl rfl ?_) ?_); (any_goals (first | exact cCallS1 rfl (.t rfl) (cloneS_ty D hD) | exact cMove rfl rfl | exact cAssign rfl rfl)); rotate_left))
  intro a w2 hF hb hN
  have hBs := hB.size
  replace hB := hB.trans (hb.mono hB.size)
  dsimp only [ext, Option.getD] at hF
  repeat with_reducible first | refine wp_seq ?_ | refine nThen ?_
  obtain ⟨u, ⟨S, hseg, hS⟩, hF⟩ := hF.open (s := 3) rfl
  replace hS : ∀ y ∈ S, w.heap.size ≤ y := fun y hy => Nat.le_trans hBs (hS y hy)
  have hen : Enters Tryd.prog 37 := fun args w => by kernel_rfl
  have hec : Enters Tryd.prog 39 := fun args w => by kernel_rfl
  rcases hseg.cases with ⟨rfl, h0, h1, rfl⟩ | ⟨g, off, cap, rfl, rfl, hl⟩
  · have hD0 : D = [] := List.eq_nil_of_length_eq_zero h0
    subst hD0
    refine' region_ty 1 mixed (by kernel_rfl) hF ?_ ?_
    rotate_left
    · simp only [List.take_succ_cons, List.take_zero]
      repeat (first | exact Line.nil | ((refine' Line.cons rfl (.run rfl rfl ?_) ?_); (any_goals exact cMove rfl rfl); rotate_left))
    intro a w3 hF hb hN
    have hBs := hB.size
    replace hB := hB.trans (hb.mono hB.size)
    simp only [List.take_succ_cons, List.take_zero, List.drop_succ_cons, List.drop_zero] at hF hN ⊢
    dsimp only [ext, Option.getD] at hF
    refine tlCall rfl rfl rfl (args := #[.slice none 0 0, .func (.func 38) #[] #[]]) ?_ hen (sort_none w3) ?_
    · simp only [List.map_toArray, List.map_cons, List.map_nil, hF.getEx (s := 6) rfl]
      rfl
    rintro z w4 rfl
    have hF := (hF.keep [3]).put (d := 7) (by decide) (Below.refl _ _) (V := Ty.ex z) rfl
    refine wpList_nil ?_
    repeat with_reducible first | refine wp_seq ?_ | refine nThen ?_
    refine' reg_all hF ?_ mixed (by kernel_rfl) ?_
    rotate_left
    · repeat (first | exact Line.nil | ((refine' Line.cons rfl (.run rfl rfl ?_) ?_); (any_goals (first | exact cCallW1 rfl rfl hec (fun W x hb hx => by have hx : x = .slice none 0 0 := hx; subst hx; exact (compact_none W).mono fun _ _ ⟨a, b⟩ => ⟨_, a, rfl, b⟩) (ρ := Ty.ex (.slice none 0 0)) | exact cMove rfl rfl | exact cAssign rfl rfl)); rotate_left))
    intro a w5 hF hb hN
    have hBs := hB.size
    replace hB := hB.trans (hb.mono hB.size)
    dsimp only [ext, Option.getD] at hF
    repeat with_reducible first | refine nThen ?_ | refine wp_ret ?_
    refine ret1 hF rfl rfl fun z hz => ?_
    have hz : z = .slice none 0 0 := hz
    subst hz
    exact ⟨_, rfl, ⟨[], Seg.nil _ _ _, by simp⟩, hB⟩
  · have hg : w.heap.size ≤ g := hS g (by simp)
    refine' region_ty 1 mixed (by kernel_rfl) hF ?_ ?_
    rotate_left
    · simp only [List.take_succ_cons, List.take_zero]
      repeat (first | exact Line.nil | ((refine' Line.cons rfl (.run rfl rfl ?_) ?_); (any_goals exact cMove rfl rfl); rotate_left))
    intro a w3 hF hb hN
    have hBs := hB.size
    replace hB := hB.trans (hb.mono hB.size)
    simp only [List.take_succ_cons, List.take_zero, List.drop_succ_cons, List.drop_zero] at hF hN ⊢
    dsimp only [ext, Option.getD] at hF
    refine tlCall rfl rfl rfl (args := #[.slice (some ⟨g, off, none⟩) D.length cap, .func (.func 38) #[] #[]]) ?_ hen (sort_any D w3 g off cap (hl.below hb) hD) ?_
    · simp only [List.map_toArray, List.map_cons, List.map_nil, hF.getEx (s := 6) rfl]
      rfl
    rintro z w4 ⟨hl4, hk4⟩
    have hF := ((hF.keep [3]).free1 hk4 (hl.below hb) rfl).put (d := 7) (by decide) (Below.refl _ _) (V := Ty.ex z) rfl
    replace hB := below_own hB hk4 (by simpa using hg)
    refine wpList_nil ?_
    repeat with_reducible first | refine wp_seq ?_ | refine nThen ?_
    have hsl := sortL_len D
    refine' region_ty 1 mixed (by kernel_rfl) hF ?_ ?_
    rotate_left
    · simp only [List.take_succ_cons, List.take_zero]
      repeat (first | exact Line.nil | ((refine' Line.cons rfl (.run rfl rfl ?_) ?_); (any_goals exact cMove rfl rfl); rotate_left))
    intro a w5 hF hb hN
    have hBs := hB.size
    replace hB := hB.trans (hb.mono hB.size)
    simp only [List.take_succ_cons, List.take_zero, List.drop_succ_cons, List.drop_zero] at hF hN ⊢
    dsimp only [ext, Option.getD] at hF
    refine tlCall rfl rfl rfl (args := #[.slice (some ⟨g, off, none⟩) D.length cap]) ?_ hec (R := fun u w' => u = .slice (some ⟨g, off, none⟩) (setL D).length cap ∧ SegL w' 25 32 g off (setL D).length cap (flat (setL D)) ∧ Keeps [g] w5 w') ?_ ?_
    · simp only [List.map_toArray, List.map_cons, List.map_nil, hF.getEx (s := 8) rfl]
    · have h := compact_any (sortL D) w5 g off cap (by rw [hsl]; exact hl4.below hb) (by omega)
      rw [hsl] at h
      refine h.mono fun e w' ⟨k, h1, h2, h3, h4⟩ => ?_
      subst h2
      exact ⟨_, h1, rfl, h3, h4⟩
    rintro z w6 ⟨rfl, hl6, hk6⟩
    have hF := ((hF.keep []).free1 hk6 (hl4.below hb) rfl).put (d := 9) (by decide) (Below.refl _ _) (V := Ty.ex (.slice (some ⟨g, off, none⟩) (setL D).length cap)) rfl
    replace hB := below_own hB hk6 (by simpa using hg)
    refine' tlOp hF rfl rfl rfl ?_ ?_
    rotate_left
    · exact cAssign rfl rfl
    intro a w7 hF hb
    have hBs := hB.size
    replace hB := hB.trans (hb.mono hB.size)
    try (refine wpList_nil ?_)
    repeat with_reducible first | refine nThen ?_ | refine wp_ret ?_
    refine ret1 hF rfl rfl fun z hz => ?_
    have hz : z = .slice (some ⟨g, off, none⟩) (setL D).length cap := hz
    subst hz
    exact ⟨_, rfl, ⟨[g], (hl6.below hb).seg, by simpa using hg⟩, hB⟩
end Go.Proofs.YtgmeagkolahkoaaDoor
