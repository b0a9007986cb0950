/- Joined: WordP, PlaceC, PlaceD, R1Keys, R1Block, R1Xor, App, Still, SumW, R1Of, PlaceE, PlaceF, PlaceG, TabP, XorA, TabA, TyO, TyW. -/
import Derived.IntWalk
import Derived.Lib.TrailingZeros
import Derived.Shelf.Spec.TrailingZeros
import Derived.StillTailTactics
import Derived.WalkLawsBesides
import Derived.Lib.Hide
import Derived.Test.YtgmeagkolahkoaaDoorProg
import Derived.KernelRfl
import Derived.Test.YtgmeagkolahkoaaDoorZStrataRawCard1
/- Eight bytes of a sum as a number: plainly. -/
namespace Go.Proofs.YtgmeagkolahkoaaDoor
open Go.RowKit

/-- The number that the last t of the eight bytes from 8 i on make. -/
def wordF (l : List Nat) (i : Nat) : Nat → Nat
  | 0 => 0
  | t + 1 => wordF l i t * 256 + l.getD (8 * i + (7 - t)) 0
theorem wordF_lt (l : List Nat) (i : Nat) (hl : ∀ j, l.getD j 0 < 256) : ∀ t, wordF l i t < 256 ^ t
  | 0 => by simp [wordF]
  | t + 1 => by
    have h1 := wordF_lt l i hl t
    have h2 := hl (8 * i + (7 - t))
    rw [wordF, Nat.pow_succ]
    omega
theorem wrap64u (n : Int) (h0 : 0 ≤ n) (h1 : n < 2 ^ 64) : IntKind.u64.wrap n = n := by
  have : IntKind.u64.wrap n = n % 18446744073709551616 := by simp [IntKind.wrap, IntKind.bits, IntKind.signed]
  rw [this]; omega
theorem or_byte (n b : Nat) (hn : n < 72057594037927936) (hb : b < 256) : bits .or .u64 ((n : Int) * 256) (b : Int) = ((n * 256 + b : Nat) : Int) := by
  have h := bits_join .u64 64 (by decide) wrap64u 8 ((n : Int) * 256) (b : Int) (by omega) (by omega) (by omega) (by omega) (by omega) (by omega)
  rw [h]
  omega

end Go.Proofs.YtgmeagkolahkoaaDoor

/- Layer 14 by types: Word, GoodCells, Good, ints. -/
namespace Go.Proofs.YtgmeagkolahkoaaDoor
open Go.RowKit

section
variable {P : Program} {w0 : World} {Γ : Ctx} {o : Oper} {t t2 : TypeId} {x y : Operand}
theorem cOr {k : IntKind} {m n r : Int} (ho : o.op = .binOp .or t x y t2) (hx : OpT Γ x (Ty.ex (.int k m))) (hy : OpT Γ y (Ty.ex (.int k n))) (hr : bits .or k m n = r) : OpOk P w0 Γ o (Ty.ex (.int k r)) :=
  cBin ho hx hy fun w => by subst hr; simp [eqGuard, binOp, Op.intBits, bits]
theorem cShl {k j : IntKind} {m n r : Int} (ho : o.op = .binOp .shl t x y t2) (hx : OpT Γ x (Ty.ex (.int k m))) (hy : OpT Γ y (Ty.ex (.int j n))) (hn : 0 ≤ n ∧ n.toNat ≤ k.bits) (hr : k.wrap (m * 2 ^ n.toNat) = r) : OpOk P w0 Γ o (Ty.ex (.int k r)) :=
  cBin ho hx hy fun w => by
    have h1 : ¬ n < 0 := by omega
    have h2 : min n.toNat k.bits = n.toNat := Nat.min_eq_left hn.2
    simp [eqGuard, binOp, Op.shift, h1, h2, hr]
theorem cRemI {m n r : Int} {k : IntKind} (ho : o.op = .binOp .rem t x y t2) (hx : OpT Γ x (Ty.ex (.int k m))) (hy : OpT Γ y (Ty.ex (.int k n))) (hn : n ≠ 0) (hr : m.tmod n = r) : OpOk P w0 Γ o (Ty.ex (.int k r)) := by
  have h := cRem (P := P) (w0 := w0) ho hx hy hn
  rwa [hr] at h
end
theorem three_ne : (3 : Int) ≠ 0 := by decide
def goodN (n : Int) : Bool := decide (3 ≤ n ∧ n ≤ 1024 ∧ n % 3 = 0)
set_option maxRecDepth 100000 in
theorem good14_ty (n : Int) : Fn1 Tryd.prog 18 (Ty.ex (.int .i64 n)) (Ty.ex (.bool (goodN n))) := by
  refine ⟨fun args w => by kernel_rfl, fun w v hv => ?_⟩
  by_cases h1 : 3 ≤ n
  · by_cases h2 : n ≤ 1024
    · refine enter_ty 14 [Ty.ex (.int .i64 n)] Tryd.func18 rfl (by kernel_rfl) ⟨hv, trivial⟩ fun a hF => ?_
      have hB := Below.refl w.heap.size w
      repeat with_reducible refine wp_seq ?_
      refine' reg_all hF ?_ mixed (by kernel_rfl) ?_
      rotate_left
      · repeat (first | exact Line.nil | ((refine' Line.cons rfl (.run rfl rfl ?_) ?_); (any_goals exact cAssign rfl rfl); rotate_left))
      intro a w1 hF hb hN
      have hBs := hB.size
      replace hB := hB.trans (hb.mono hB.size)
      dsimp only [ext, Option.getD] at hF
      repeat with_reducible first | refine wp_seq ?_ | refine nThen ?_
      refine' reg_all hF ?_ mixed (by kernel_rfl) ?_
      rotate_left
      · repeat (first | exact Line.nil | ((first | refine' Line.cons rfl (.run rfl rfl ?_) ?_ | refine' Line.cons rfl (.yes rfl rfl rfl rfl ?_) ?_); (any_goals (first | exact cMove rfl rfl | exact cAssign rfl rfl | exact OpOk.b (c := true) (cGeq rfl rfl rfl) (decide_eq_true h1) | exact OpOk.b (c := true) (cLeq rfl rfl rfl) (decide_eq_true h2) | exact cRemI rfl rfl rfl three_ne rfl | exact cPickT rfl rfl rfl | exact cEql rfl rfl rfl)); rotate_left))
      intro a w2 hF hb hN
      have hBs := hB.size
      replace hB := hB.trans (hb.mono hB.size)
      dsimp only [ext, Option.getD] at hF
      repeat with_reducible first | refine nThen ?_ | refine wp_ret ?_
      refine ret1 hF rfl rfl fun z hz => ?_
      refine ⟨z, rfl, ?_, hB⟩
      have hz : z = .bool (decide (n.tmod 3 = 0)) := hz
      rw [hz]
      show _ = _
      congr 1
      unfold goodN
      rw [Bool.eq_iff_iff, decide_eq_true_eq, decide_eq_true_eq]
      have := Int.tmod_eq_emod_of_nonneg (a := n) (b := 3) (by omega)
      omega
    · refine enter_ty 14 [Ty.ex (.int .i64 n)] Tryd.func18 rfl (by kernel_rfl) ⟨hv, trivial⟩ fun a hF => ?_
      have hB := Below.refl w.heap.size w
      repeat with_reducible refine wp_seq ?_
      refine' reg_all hF ?_ mixed (by kernel_rfl) ?_
      rotate_left
      · repeat (first | exact Line.nil | ((refine' Line.cons rfl (.run rfl rfl ?_) ?_); (any_goals exact cAssign rfl rfl); rotate_left))
      intro a w1 hF hb hN
      have hBs := hB.size
      replace hB := hB.trans (hb.mono hB.size)
      dsimp only [ext, Option.getD] at hF
      repeat with_reducible first | refine wp_seq ?_ | refine nThen ?_
      refine' reg_all hF ?_ mixed (by kernel_rfl) ?_
      rotate_left
      · repeat (first | exact Line.nil | (refine' Line.cons rfl (.no rfl rfl rfl rfl rfl rfl) ?_; rotate_left) | ((first | refine' Line.cons rfl (.run rfl rfl ?_) ?_ | refine' Line.cons rfl (.yes rfl rfl rfl rfl ?_) ?_); (any_goals (first | exact cMove rfl rfl | exact cAssign rfl rfl | exact OpOk.b (c := true) (cGeq rfl rfl rfl) (decide_eq_true h1) | exact OpOk.b (c := false) (cLeq rfl rfl rfl) (decide_eq_false h2) | exact cPickT rfl rfl rfl | exact cPickF rfl rfl rfl)); rotate_left))
      intro a w2 hF hb hN
      have hBs := hB.size
      replace hB := hB.trans (hb.mono hB.size)
      dsimp only [ext, Option.getD] at hF
      repeat with_reducible first | refine nThen ?_ | refine wp_ret ?_
      refine ret1 hF rfl rfl fun z hz => ?_
      refine ⟨z, rfl, ?_, hB⟩
      rw [show goodN n = false from decide_eq_false (fun h => h2 h.2.1)]
      exact hz
  · refine enter_ty 14 [Ty.ex (.int .i64 n)] Tryd.func18 rfl (by kernel_rfl) ⟨hv, trivial⟩ fun a hF => ?_
    have hB := Below.refl w.heap.size w
    repeat with_reducible refine wp_seq ?_
    refine' reg_all hF ?_ mixed (by kernel_rfl) ?_
    rotate_left
    · repeat (first | exact Line.nil | ((refine' Line.cons rfl (.run rfl rfl ?_) ?_); (any_goals exact cAssign rfl rfl); rotate_left))
    intro a w1 hF hb hN
    have hBs := hB.size
    replace hB := hB.trans (hb.mono hB.size)
    dsimp only [ext, Option.getD] at hF
    repeat with_reducible first | refine wp_seq ?_ | refine nThen ?_
    refine' reg_all hF ?_ mixed (by kernel_rfl) ?_
    rotate_left
    · repeat (first | exact Line.nil | (refine' Line.cons rfl (.no rfl rfl rfl rfl rfl rfl) ?_; rotate_left) | ((refine' Line.cons rfl (.run rfl rfl ?_) ?_); (any_goals (first | exact cMove rfl rfl | exact cAssign rfl rfl | exact OpOk.b (c := false) (cGeq rfl rfl rfl) (decide_eq_false h1) | exact cPickF rfl rfl rfl)); rotate_left))
    intro a w2 hF hb hN
    have hBs := hB.size
    replace hB := hB.trans (hb.mono hB.size)
    dsimp only [ext, Option.getD] at hF
    repeat with_reducible first | refine nThen ?_ | refine wp_ret ?_
    refine ret1 hF rfl rfl fun z hz => ?_
    refine ⟨z, rfl, ?_, hB⟩
    rw [show goodN n = false from decide_eq_false (fun h => h1 h.1)]
    exact hz
set_option maxRecDepth 100000 in
theorem goodCells_ty (n : Int) : Fn1 Tryd.prog 54 (Ty.ex (.int .i64 n)) (Ty.ex (.bool (goodN n))) := by
  refine ⟨fun args w => by kernel_rfl, fun w v hv => ?_⟩
  by_cases h1 : 3 ≤ n
  · by_cases h2 : n ≤ 1024
    · refine enter_ty 14 [Ty.ex (.int .i64 n)] Tryd.func54 rfl (by kernel_rfl) ⟨hv, trivial⟩ fun a hF => ?_
      have hB := Below.refl w.heap.size w
      repeat with_reducible refine wp_seq ?_
      refine' reg_all hF ?_ mixed (by kernel_rfl) ?_
      rotate_left
      · repeat (first | exact Line.nil | ((refine' Line.cons rfl (.run rfl rfl ?_) ?_); (any_goals exact cAssign rfl rfl); rotate_left))
      intro a w1 hF hb hN
      have hBs := hB.size
      replace hB := hB.trans (hb.mono hB.size)
      dsimp only [ext, Option.getD] at hF
      repeat with_reducible first | refine wp_seq ?_ | refine nThen ?_
      refine' reg_all hF ?_ mixed (by kernel_rfl) ?_
      rotate_left
      · repeat (first | exact Line.nil | ((first | refine' Line.cons rfl (.run rfl rfl ?_) ?_ | refine' Line.cons rfl (.yes rfl rfl rfl rfl ?_) ?_); (any_goals (first | exact cMove rfl rfl | exact cAssign rfl rfl | exact OpOk.b (c := true) (cGeq rfl rfl rfl) (decide_eq_true h1) | exact OpOk.b (c := true) (cLeq rfl rfl rfl) (decide_eq_true h2) | exact cRemI rfl rfl rfl three_ne rfl | exact cPickT rfl rfl rfl | exact cEql rfl rfl rfl)); rotate_left))
      intro a w2 hF hb hN
      have hBs := hB.size
      replace hB := hB.trans (hb.mono hB.size)
      dsimp only [ext, Option.getD] at hF
      repeat with_reducible first | refine nThen ?_ | refine wp_ret ?_
      refine ret1 hF rfl rfl fun z hz => ?_
      refine ⟨z, rfl, ?_, hB⟩
      have hz : z = .bool (decide (n.tmod 3 = 0)) := hz
      rw [hz]
      show _ = _
      congr 1
      unfold goodN
      rw [Bool.eq_iff_iff, decide_eq_true_eq, decide_eq_true_eq]
      have := Int.tmod_eq_emod_of_nonneg (a := n) (b := 3) (by omega)
      omega
    · refine enter_ty 14 [Ty.ex (.int .i64 n)] Tryd.func54 rfl (by kernel_rfl) ⟨hv, trivial⟩ fun a hF => ?_
      have hB := Below.refl w.heap.size w
      repeat with_reducible refine wp_seq ?_
      refine' reg_all hF ?_ mixed (by kernel_rfl) ?_
      rotate_left
      · repeat (first | exact Line.nil | ((refine' Line.cons rfl (.run rfl rfl ?_) ?_); (any_goals exact cAssign rfl rfl); rotate_left))
      intro a w1 hF hb hN
      have hBs := hB.size
      replace hB := hB.trans (hb.mono hB.size)
      dsimp only [ext, Option.getD] at hF
      repeat with_reducible first | refine wp_seq ?_ | refine nThen ?_
      refine' reg_all hF ?_ mixed (by kernel_rfl) ?_
      rotate_left
      · repeat (first | exact Line.nil | (refine' Line.cons rfl (.no rfl rfl rfl rfl rfl rfl) ?_; rotate_left) | ((first | refine' Line.cons rfl (.run rfl rfl ?_) ?_ | refine' Line.cons rfl (.yes rfl rfl rfl rfl ?_) ?_); (any_goals (first | exact cMove rfl rfl | exact cAssign rfl rfl | exact OpOk.b (c := true) (cGeq rfl rfl rfl) (decide_eq_true h1) | exact OpOk.b (c := false) (cLeq rfl rfl rfl) (decide_eq_false h2) | exact cPickT rfl rfl rfl | exact cPickF rfl rfl rfl)); rotate_left))
      intro a w2 hF hb hN
      have hBs := hB.size
      replace hB := hB.trans (hb.mono hB.size)
      dsimp only [ext, Option.getD] at hF
      repeat with_reducible first | refine nThen ?_ | refine wp_ret ?_
      refine ret1 hF rfl rfl fun z hz => ?_
      refine ⟨z, rfl, ?_, hB⟩
      rw [show goodN n = false from decide_eq_false (fun h => h2 h.2.1)]
      exact hz
  · refine enter_ty 14 [Ty.ex (.int .i64 n)] Tryd.func54 rfl (by kernel_rfl) ⟨hv, trivial⟩ fun a hF => ?_
    have hB := Below.refl w.heap.size w
    repeat with_reducible refine wp_seq ?_
    refine' reg_all hF ?_ mixed (by kernel_rfl) ?_
    rotate_left
    · repeat (first | exact Line.nil | ((refine' Line.cons rfl (.run rfl rfl ?_) ?_); (any_goals exact cAssign rfl rfl); rotate_left))
    intro a w1 hF hb hN
    have hBs := hB.size
    replace hB := hB.trans (hb.mono hB.size)
    dsimp only [ext, Option.getD] at hF
    repeat with_reducible first | refine wp_seq ?_ | refine nThen ?_
    refine' reg_all hF ?_ mixed (by kernel_rfl) ?_
    rotate_left
    · repeat (first | exact Line.nil | (refine' Line.cons rfl (.no rfl rfl rfl rfl rfl rfl) ?_; rotate_left) | ((refine' Line.cons rfl (.run rfl rfl ?_) ?_); (any_goals (first | exact cMove rfl rfl | exact cAssign rfl rfl | exact OpOk.b (c := false) (cGeq rfl rfl rfl) (decide_eq_false h1) | exact cPickF rfl rfl rfl)); rotate_left))
    intro a w2 hF hb hN
    have hBs := hB.size
    replace hB := hB.trans (hb.mono hB.size)
    dsimp only [ext, Option.getD] at hF
    repeat with_reducible first | refine nThen ?_ | refine wp_ret ?_
    refine ret1 hF rfl rfl fun z hz => ?_
    refine ⟨z, rfl, ?_, hB⟩
    rw [show goodN n = false from decide_eq_false (fun h => h1 h.1)]
    exact hz

theorem sm_getD (x : Sm) (j : Nat) : x.l.getD j 0 < 256 := by
  by_cases h : j < x.l.length
  · simp only [List.getD, List.getElem?_eq_getElem h, Option.getD_some]
    exact x.lt _ (List.getElem_mem h)
  · simp [List.getD, List.getElem?_eq_none (by omega : x.l.length ≤ j)]
theorem enc_drop {x : Sm} {j : Nat} (h : j < 32) : x.enc.drop j = bv (x.l.getD j 0) :: x.enc.drop (j + 1) := by
  have hl : j < x.enc.length := by rw [enc_len]; exact h
  have hl2 : j < x.l.length := by rw [x.len]; exact h
  rw [List.drop_eq_getElem_cons hl]
  congr 1
  simp [Sm.enc, List.getD, List.getElem?_eq_getElem hl2]

set_option maxRecDepth 100000 in
set_option maxHeartbeats 1000000 in
theorem sword_ty (x : Sm) (i : Nat) (hi : i < 4) : Fn2 Tryd.prog 41 (Ty.ex (.agg (u8s x.l))) (Ty.ex (.int .i64 (i : Int))) (Ty.ex (.int .u64 (wordF x.l i 8 : Int))) := by
  refine ⟨fun args w => by kernel_rfl, fun w v u hv hu => ?_⟩
  refine enter_ty 28 [Ty.ex (.agg (u8s x.l)), Ty.ex (.int .i64 (i : Int))] Tryd.func41 rfl (by kernel_rfl) ⟨hv, hu, trivial⟩ fun a hF => ?_
  have hB := Below.refl w.heap.size w
  repeat with_reducible refine wp_seq ?_
  refine' reg_all hF ?_ mixed (by kernel_rfl) ?_
  rotate_left
  · repeat (first | exact Line.nil | ((refine' Line.cons rfl (.run rfl rfl ?_) ?_); (any_goals (first | exact cAssign rfl rfl | exact cBoxSum rfl rfl)); rotate_left))
  intro a w1 hF hb hN
  have hBs := hB.size
  replace hB := hB.trans (hb.mono hB.size)
  dsimp only [ext, Option.getD] at hF
  repeat with_reducible first | refine wp_seq ?_ | refine nThen ?_
  refine' reg_all hF ?_ mixed (by kernel_rfl) ?_
  rotate_left
  · repeat (first | exact Line.nil | ((first | refine' Line.cons rfl (.run rfl rfl ?_) ?_ | refine' Line.cons rfl (.yes rfl rfl rfl rfl ?_) ?_); (any_goals (first | exact cMove rfl rfl | exact OpOk.b (c := false) (cLss rfl rfl rfl) (decide_eq_false (by omega)) | exact OpOk.b (c := false) (cGeq rfl rfl rfl) (decide_eq_false (by omega)) | exact cPickF rfl rfl rfl)); rotate_left))
  intro a w2 hF hb hN
  have hBs := hB.size
  replace hB := hB.trans (hb.mono hB.size)
  dsimp only [ext, Option.getD] at hF
  repeat with_reducible refine nThen ?_
  refine cond_f hF rfl ?_
  repeat with_reducible first | refine wp_seq ?_ | refine nThen ?_ | refine wp_skip ?_
  refine' reg_all hF ?_ mixed (by kernel_rfl) ?_
  rotate_left
  · repeat (first | exact Line.nil | ((refine' Line.cons rfl (.run rfl rfl ?_) ?_); (any_goals exact cAssign rfl rfl); rotate_left))
  intro a w3 hF hb hN
  have hBs := hB.size
  replace hB := hB.trans (hb.mono hB.size)
  dsimp only [ext, Option.getD] at hF
  repeat with_reducible first | refine wp_seq ?_ | refine nThen ?_
  refine' reg_all hF ?_ mixed (by kernel_rfl) ?_
  rotate_left
  · repeat (first | exact Line.nil | ((refine' Line.cons rfl (.run rfl rfl ?_) ?_); (any_goals exact cAssign rfl rfl); rotate_left))
  intro a w4 hF hb hN
  have hBs := hB.size
  replace hB := hB.trans (hb.mono hB.size)
  dsimp only [ext, Option.getD] at hF
  repeat with_reducible first | refine nThen ?_ | refine wp_block ?_
  refine loop_ty (fun m a wr => ∃ t : Nat, t + m = 8 ∧ Fr 28 [(2, Ty.at_ 25 x.enc), (1, Ty.ex (.int .i64 (i : Int))), (5, Ty.ex (.int .u64 (wordF x.l i t : Int))), (6, Ty.ex (.int .i64 (7 - (t : Int))))] a wr ∧ Below w.heap.size w wr) 8 ?_ ?_
  · exact ⟨0, by omega, hF.keep [2, 1, 5, 6], hB⟩
  clear hF hB
  rintro m a wr ⟨t, ht, hF, hB⟩
  repeat with_reducible refine wp_seq ?_
  refine' reg_all hF ?_ mixed (by kernel_rfl) ?_
  rotate_left
  · repeat (first | exact Line.nil | ((refine' Line.cons rfl (.run rfl rfl ?_) ?_); (any_goals (first | exact cMove rfl rfl | exact cGeq rfl rfl rfl)); rotate_left))
  intro a w5 hF hb hN
  have hBs := hB.size
  replace hB := hB.trans (hb.mono hB.size)
  dsimp only [ext, Option.getD] at hF
  repeat with_reducible refine nThen ?_
  refine cond_ty hF rfl (fun hlt => ?_) (fun hge => ?_)
  · have hlt : t < 8 := by have := of_decide_eq_true hlt; omega
    have hw := wordF_lt x.l i (sm_getD x) t
    have hw8 : wordF x.l i t < 72057594037927936 := Nat.lt_of_lt_of_le hw (Nat.le_trans (Nat.pow_le_pow_right (by decide) (show t ≤ 7 by omega)) (by decide))
    have hb8 := sm_getD x (8 * i + (7 - t))
    have hor := or_byte (wordF x.l i t) (x.l.getD (8 * i + (7 - t)) 0) hw8 hb8
    have hnext : wordF x.l i (t + 1) = wordF x.l i t * 256 + x.l.getD (8 * i + (7 - t)) 0 := rfl
    have hdr := enc_drop (x := x) (j := 8 * i + (7 - t)) (by omega)
    repeat with_reducible first | refine wp_seq ?_ | refine nThen ?_ | refine wp_skip ?_ | refine wp_block ?_
    generalize wordF x.l i t = W1 at *
    generalize hW2 : wordF x.l i (t + 1) = W2 at *
    generalize x.l.getD (8 * i + (7 - t)) 0 = B at *
    refine' reg_all hF ?_ mixed (by kernel_rfl) ?_
    rotate_left
    · repeat (first | exact Line.nil | ((refine' Line.cons rfl (.run rfl rfl ?_) ?_); (any_goals (first | exact cMove rfl rfl | exact cAssign rfl rfl | exact cShl (r := ((W1 : Int) * 256)) rfl rfl rfl (by decide) (by simp [IntKind.wrap, IntKind.bits, IntKind.signed]; omega) | exact cMul (r := (8 * (i : Int))) rfl rfl rfl (by omega) | exact cAdd (r := ((8 * i + (7 - t) : Nat) : Int)) rfl rfl rfl (by omega) | exact cIndexArr (k := 8 * i + (7 - t)) rfl (.t rfl) rfl Tryd.underlying25 sizeU (by omega) | exact cLoad1 (u := bv B) rfl (Has.c (.t rfl) (fun W v h => hdr ▸ h)) (pts_at _ _) Tryd.underlying5 rfl | exact cConvR (r := (B : Int)) rfl rfl Tryd.underlying5 Tryd.underlying22 (by simp [IntKind.wrap, IntKind.bits, IntKind.signed]; omega) | exact cOr rfl rfl rfl hor)); rotate_left))
    intro a w6 hF hb hN
    have hBs := hB.size
    replace hB := hB.trans (hb.mono hB.size)
    dsimp only [ext, Option.getD] at hF
    repeat with_reducible first | refine nThen ?_ | refine nBlk ?_
    refine' reg_all hF ?_ mixed (by kernel_rfl) ?_
    rotate_left
    · repeat (first | exact Line.nil | ((refine' Line.cons rfl (.run rfl rfl ?_) ?_); (any_goals (first | exact cMove rfl rfl | exact cAssign rfl rfl | exact cSub (r := (7 - ((t + 1 : Nat) : Int))) rfl rfl rfl (by omega))); rotate_left))
    intro a w7 hF hb hN
    have hBs := hB.size
    replace hB := hB.trans (hb.mono hB.size)
    dsimp only [ext, Option.getD] at hF
    repeat with_reducible refine nThen ?_
    refine ⟨m - 1, by omega, t + 1, by omega, ?_, hB⟩
    rw [hW2, hnext]
    exact hF.keep [2, 1, 5, 6]
  · have hge : ¬ t < 8 := by have := of_decide_eq_false hge; omega
    obtain rfl : t = 8 := by omega
    repeat with_reducible first | refine wp_seq ?_ | refine nThen ?_ | refine wp_exit ?_ | refine xThen ?_ | refine xHere ?_
    refine' reg_all hF ?_ mixed (by kernel_rfl) ?_
    rotate_left
    · repeat (first | exact Line.nil | ((refine' Line.cons rfl (.run rfl rfl ?_) ?_); (any_goals (first | exact cMove rfl rfl | exact cAssign rfl rfl)); rotate_left))
    intro a w6 hF hb hN
    have hBs := hB.size
    replace hB := hB.trans (hb.mono hB.size)
    dsimp only [ext, Option.getD] at hF
    repeat with_reducible first | refine nThen ?_ | refine wp_ret ?_
    refine ret1 hF rfl rfl fun z hz => ?_
    exact ⟨z, rfl, hz, hB⟩

set_option maxRecDepth 100000 in
set_option maxHeartbeats 1000000 in
theorem rword_ty (x : Sm) (i : Nat) (hi : i < 4) : Fn2 Tryd.prog 103 (Ty.ex (.agg (u8s x.l))) (Ty.ex (.int .i64 (i : Int))) (Ty.ex (.int .u64 (wordF x.l i 8 : Int))) := by
  refine ⟨fun args w => by kernel_rfl, fun w v u hv hu => ?_⟩
  refine enter_ty 30 [Ty.ex (.agg (u8s x.l)), Ty.ex (.int .i64 (i : Int))] Tryd.func103 rfl (by kernel_rfl) ⟨hv, hu, trivial⟩ fun a hF => ?_
  have hB := Below.refl w.heap.size w
  repeat with_reducible refine wp_seq ?_
  refine' reg_all hF ?_ mixed (by kernel_rfl) ?_
  rotate_left
  · repeat (first | exact Line.nil | ((refine' Line.cons rfl (.run rfl rfl ?_) ?_); (any_goals (first | exact cAssign rfl rfl | exact cBoxSum rfl rfl)); rotate_left))
  intro a w1 hF hb hN
  have hBs := hB.size
  replace hB := hB.trans (hb.mono hB.size)
  dsimp only [ext, Option.getD] at hF
  repeat with_reducible first | refine wp_seq ?_ | refine nThen ?_
  refine' reg_all hF ?_ mixed (by kernel_rfl) ?_
  rotate_left
  · repeat (first | exact Line.nil | ((refine' Line.cons rfl (.run rfl rfl ?_) ?_); (any_goals exact cAssign rfl rfl); rotate_left))
  intro a w3 hF hb hN
  have hBs := hB.size
  replace hB := hB.trans (hb.mono hB.size)
  dsimp only [ext, Option.getD] at hF
  repeat with_reducible first | refine wp_seq ?_ | refine nThen ?_
  refine' reg_all hF ?_ mixed (by kernel_rfl) ?_
  rotate_left
  · repeat (first | exact Line.nil | ((refine' Line.cons rfl (.run rfl rfl ?_) ?_); (any_goals exact cAssign rfl rfl); rotate_left))
  intro a w4 hF hb hN
  have hBs := hB.size
  replace hB := hB.trans (hb.mono hB.size)
  dsimp only [ext, Option.getD] at hF
  repeat with_reducible first | refine nThen ?_ | refine wp_block ?_
  refine loop_ty (fun m a wr => ∃ t : Nat, t + m = 8 ∧ Fr 30 [(2, Ty.at_ 112 x.enc), (1, Ty.ex (.int .i64 (i : Int))), (5, Ty.ex (.int .u64 (wordF x.l i t : Int))), (6, Ty.ex (.int .i64 (7 - (t : Int))))] a wr ∧ Below w.heap.size w wr) 8 ?_ ?_
  · exact ⟨0, by omega, hF.keep [2, 1, 5, 6], hB⟩
  clear hF hB
  rintro m a wr ⟨t, ht, hF, hB⟩
  repeat with_reducible refine wp_seq ?_
  by_cases hlt : t < 8
  · refine' reg_all hF ?_ mixed (by kernel_rfl) ?_
    rotate_left
    · repeat (first | exact Line.nil | ((first | refine' Line.cons rfl (.run rfl rfl ?_) ?_ | refine' Line.cons rfl (.yes rfl rfl rfl rfl ?_) ?_); (any_goals (first | exact cMove rfl rfl | exact OpOk.b (c := true) (cGeq rfl rfl rfl) (decide_eq_true (by omega)) | exact OpOk.b (c := true) (cLss rfl rfl rfl) (decide_eq_true (by omega)) | exact cPickT rfl rfl rfl)); rotate_left))
    intro a w5 hF hb hN
    have hBs := hB.size
    replace hB := hB.trans (hb.mono hB.size)
    dsimp only [ext, Option.getD] at hF
    repeat with_reducible refine nThen ?_
    refine cond_t hF rfl ?_
    have hw := wordF_lt x.l i (sm_getD x) t
    have hw8 : wordF x.l i t < 72057594037927936 := Nat.lt_of_lt_of_le hw (Nat.le_trans (Nat.pow_le_pow_right (by decide) (show t ≤ 7 by omega)) (by decide))
    have hb8 := sm_getD x (8 * i + (7 - t))
    have hor := or_byte (wordF x.l i t) (x.l.getD (8 * i + (7 - t)) 0) hw8 hb8
    have hnext : wordF x.l i (t + 1) = wordF x.l i t * 256 + x.l.getD (8 * i + (7 - t)) 0 := rfl
    have hdr := enc_drop (x := x) (j := 8 * i + (7 - t)) (by omega)
    repeat with_reducible first | refine wp_seq ?_ | refine nThen ?_ | refine wp_skip ?_ | refine wp_block ?_
    generalize wordF x.l i t = W1 at *
    generalize hW2 : wordF x.l i (t + 1) = W2 at *
    generalize x.l.getD (8 * i + (7 - t)) 0 = B at *
    refine' reg_all hF ?_ mixed (by kernel_rfl) ?_
    rotate_left
    · repeat (first | exact Line.nil | ((refine' Line.cons rfl (.run rfl rfl ?_) ?_); (any_goals (first | exact cMove rfl rfl | exact cAssign rfl rfl | exact cShl (r := ((W1 : Int) * 256)) rfl rfl rfl (by decide) (by simp [IntKind.wrap, IntKind.bits, IntKind.signed]; omega) | exact cMul (r := (8 * (i : Int))) rfl rfl rfl (by omega) | exact cAdd (r := ((8 * i + (7 - t) : Nat) : Int)) rfl rfl rfl (by omega) | exact cIndexArr (k := 8 * i + (7 - t)) rfl (.t rfl) rfl Tryd.underlying112 sizeU (by omega) | exact cLoad1 (u := bv B) rfl (Has.c (.t rfl) (fun W v h => hdr ▸ h)) (pts_at _ _) Tryd.underlying5 rfl | exact cConvR (r := (B : Int)) rfl rfl Tryd.underlying5 Tryd.underlying22 (by simp [IntKind.wrap, IntKind.bits, IntKind.signed]; omega) | exact cOr rfl rfl rfl hor)); rotate_left))
    intro a w6 hF hb hN
    have hBs := hB.size
    replace hB := hB.trans (hb.mono hB.size)
    dsimp only [ext, Option.getD] at hF
    repeat with_reducible first | refine nThen ?_ | refine nBlk ?_
    refine' reg_all hF ?_ mixed (by kernel_rfl) ?_
    rotate_left
    · repeat (first | exact Line.nil | ((refine' Line.cons rfl (.run rfl rfl ?_) ?_); (any_goals (first | exact cMove rfl rfl | exact cAssign rfl rfl | exact cSub (r := (7 - ((t + 1 : Nat) : Int))) rfl rfl rfl (by omega))); rotate_left))
    intro a w7 hF hb hN
    have hBs := hB.size
    replace hB := hB.trans (hb.mono hB.size)
    dsimp only [ext, Option.getD] at hF
    repeat with_reducible refine nThen ?_
    refine ⟨m - 1, by omega, t + 1, by omega, ?_, hB⟩
    rw [hW2, hnext]
    exact hF.keep [2, 1, 5, 6]
  · obtain rfl : t = 8 := by omega
    refine' reg_all hF ?_ mixed (by kernel_rfl) ?_
    rotate_left
    · repeat (first | exact Line.nil | (refine' Line.cons rfl (.no rfl rfl rfl rfl rfl rfl) ?_; rotate_left) | ((refine' Line.cons rfl (.run rfl rfl ?_) ?_); (any_goals (first | exact cMove rfl rfl | exact OpOk.b (c := false) (cGeq rfl rfl rfl) (decide_eq_false (by omega)) | exact cPickF rfl rfl rfl)); rotate_left))
    intro a w5 hF hb hN
    have hBs := hB.size
    replace hB := hB.trans (hb.mono hB.size)
    dsimp only [ext, Option.getD] at hF
    repeat with_reducible refine nThen ?_
    refine cond_f hF rfl ?_
    repeat with_reducible first | refine wp_seq ?_ | refine nThen ?_ | refine wp_exit ?_ | refine xThen ?_ | refine xHere ?_
    refine' reg_all hF ?_ mixed (by kernel_rfl) ?_
    rotate_left
    · repeat (first | exact Line.nil | ((refine' Line.cons rfl (.run rfl rfl ?_) ?_); (any_goals (first | exact cMove rfl rfl | exact cAssign rfl rfl)); rotate_left))
    intro a w6 hF hb hN
    have hBs := hB.size
    replace hB := hB.trans (hb.mono hB.size)
    dsimp only [ext, Option.getD] at hF
    repeat with_reducible first | refine nThen ?_ | refine wp_ret ?_
    refine ret1 hF rfl rfl fun z hz => ?_
    exact ⟨z, rfl, hz, hB⟩
end Go.Proofs.YtgmeagkolahkoaaDoor

/- Layer 14 by types: TrailingZeros64, Level. -/
namespace Go.Proofs.YtgmeagkolahkoaaDoor
open Go.RowKit

section
variable {P : Program} {w0 : World} {Γ : Ctx} {o : Oper}
theorem cNegV {t : TypeId} {x : Operand} {k : IntKind} {m : Int} (ho : o.op = .unOp .neg t x) (hx : OpT Γ x (Ty.ex (.int k m))) : OpOk P w0 Γ o (Ty.ex (.int k (k.wrap (-m)))) :=
  .val fun a w _ hs => by
    obtain ⟨v, h1, h2⟩ := hs x _ (by simp [ho, Op.operands]) hx
    have h2 : v = .int k m := h2
    exact ⟨_, rfl, by unfold execOp; simp [ho, h1, h2, Op.unary, Op.intArith]⟩
theorem cAnd {t t2 : TypeId} {x y : Operand} {k : IntKind} {m n r : Int} (ho : o.op = .binOp .and t x y t2) (hx : OpT Γ x (Ty.ex (.int k m))) (hy : OpT Γ y (Ty.ex (.int k n))) (hr : bits .and k m n = r) : OpOk P w0 Γ o (Ty.ex (.int k r)) :=
  cBin ho hx hy fun w => by subst hr; simp [eqGuard, binOp, Op.intBits, bits]
theorem cNegR {t : TypeId} {x : Operand} {k : IntKind} {m r : Int} (ho : o.op = .unOp .neg t x) (hx : OpT Γ x (Ty.ex (.int k m))) (hr : k.wrap (-m) = r) : OpOk P w0 Γ o (Ty.ex (.int k r)) := by
  have h := cNegV (P := P) (w0 := w0) ho hx
  rwa [hr] at h
theorem cMulR {t t2 : TypeId} {x y : Operand} {k : IntKind} {m n r : Int} (ho : o.op = .binOp .mul t x y t2) (hx : OpT Γ x (Ty.ex (.int k m))) (hy : OpT Γ y (Ty.ex (.int k n))) (hr : k.wrap (m * n) = r) : OpOk P w0 Γ o (Ty.ex (.int k r)) := by
  have h := cMulW (P := P) (w0 := w0) ho hx hy
  rwa [hr] at h
theorem cIndexArrR {t ea : TypeId} {x ix : Operand} {n k : Nat} {kd : IntKind} {xs : List Value} (ho : o.op = .indexAddr t x ix) (hx : Has w0 Γ x (Ty.atR xs)) (hi : OpT Γ ix (Ty.ex (.int kd (k : Int)))) (hu : P.underlying t = some (.array n ea)) (hz : (P.info? ea).map (·.size) = some 1) (hk : k < n) (hne : k < xs.length) : OpOk P w0 Γ o (Ty.atR (xs.drop k)) :=
  .val fun a w hb hs => by
    obtain ⟨v, h1, ad, rfl, h2, h3⟩ := hx.see hs (by simp [ho, Op.operands]) hb
    obtain ⟨i, h5, h6⟩ := hs ix _ (by simp [ho, Op.operands]) hi
    have h6 : i = .int kd (k : Int) := h6
    obtain ⟨inf, hinf, hsz⟩ := Option.map_eq_some_iff.1 hz
    refine ⟨_, ⟨ad.add k, rfl, rd_add h2 k, by simp; omega⟩, ?_⟩
    unfold execOp
    simp [ho, h1, h5, h6, Instr.indexAt, Instr.sureAddr, asIntOf, run_underlying hu, hk, sizeOf, typeInfo, hinf, hsz]
theorem cMinI {t1 t2 : TypeId} {x : Operand} {m n : Int} (ho : o.op = .call { callee := .builtin .min, args := #[x, .const (.int .i64 n)], argTypes := #[t1, t2] }) (hx : OpT Γ x (Ty.ex (.int .i64 m))) : OpOk P w0 Γ o (Ty.ex (.int .i64 (min m n))) :=
  .val fun a w _ hs => by
    obtain ⟨v, h1, h2⟩ := hs x _ (by simp [ho, Op.operands, Call.operands]) hx
    have h2 : v = .int .i64 m := h2
    refine ⟨_, rfl, ?_⟩
    unfold execOp
    have hc : a.eval (.const (.int .i64 n)) = .int .i64 n := rfl
    simp [ho, h1, h2, hc, resolve, invoke, builtin, Builtin.min_, Builtin.min2]
    omega
end
def TabOk (w : World) : Prop := (Ty.atR (Lib.deBruijn64tab.map bv)).p w (.pointer (some ⟨0, 0, none⟩))
theorem TabOk.below {w w' : World} (h : TabOk w) (hb : Below w.heap.size w w') : TabOk w' := (Ty.atR (Lib.deBruijn64tab.map bv)).below h hb
theorem e58 : (2 : Int) ^ (58 : Int).toNat = 288230376151711744 := by decide
theorem n58 : (0 : Int) ≤ 58 ∧ (58 : Int).toNat ≤ IntKind.u64.bits := by decide
theorem map_len {L : List Nat} {I n : Nat} (hl : L.length = n) (hi : I < n) : I < (L.map bv).length := by rw [List.length_map, hl]; exact hi
theorem drop_tab {L : List Nat} {I K n : Nat} (hl : L.length = n) (hi : I < n) (h : L.getD I 0 = K) : (L.map bv).drop I = bv K :: (L.map bv).drop (I + 1) := by
  have h1 : I < (L.map bv).length := map_len hl hi
  rw [List.drop_eq_getElem_cons h1]
  congr 1
  rw [List.getElem_map]
  have hl2 : I < L.length := by rw [hl]; exact hi
  simp only [List.getD, List.getElem?_eq_getElem hl2, Option.getD_some] at h
  rw [h]
theorem tab_len : Lib.deBruijn64tab.length = 64 := by decide
set_option maxRecDepth 100000 in
theorem tz_zero (w : World) : Ret Tryd.prog 40 #[.int .u64 0] w (Ty.ex (.int .i64 64)) := by
    refine enter_ty 14 [Ty.ex (.int .u64 0)] Tryd.func40 rfl (by kernel_rfl) ⟨rfl, trivial⟩ fun a hF => ?_
    have hB := Below.refl w.heap.size w
    repeat with_reducible first | refine wp_seq ?_ | refine nThen ?_ | refine wp_ret ?_ | refine rThen ?_
    refine' reg_all hF ?_ mixed (by kernel_rfl) ?_
    rotate_left
    · repeat (first
          | exact Line.nil
          | ((refine' Line.cons rfl (.run rfl rfl ?_) ?_)
             any_goals (first | exact cMove rfl rfl | exact cAssign rfl rfl | exact cEql rfl rfl rfl)
             rotate_left))
    intro a w1 hF hb hN
    have hBs := hB.size
    replace hB := hB.trans (hb.mono hB.size)
    dsimp only [ext, Option.getD] at hF
    repeat with_reducible first | refine wp_seq ?_ | refine nThen ?_ | refine wp_ret ?_ | refine rThen ?_
    refine' reg_all hF ?_ mixed (by kernel_rfl) ?_
    rotate_left
    · repeat (first
          | exact Line.nil
          | ((refine' Line.cons rfl (.run rfl rfl ?_) ?_)
             any_goals (first | exact cMove rfl rfl | exact cAssign rfl rfl | exact OpOk.b (c := true) (cEql rfl rfl rfl) rfl | exact cEql rfl rfl rfl)
             rotate_left))
    intro a w2 hF hb hN
    have hBs := hB.size
    replace hB := hB.trans (hb.mono hB.size)
    dsimp only [ext, Option.getD] at hF
    repeat with_reducible first | refine wp_seq ?_ | refine nThen ?_ | refine wp_ret ?_ | refine rThen ?_
    refine cond_t hF rfl ?_
    repeat with_reducible first | refine wp_seq ?_ | refine nThen ?_ | refine wp_ret ?_ | refine rThen ?_
    refine' reg_all hF ?_ mixed (by kernel_rfl) ?_
    rotate_left
    · repeat (first
          | exact Line.nil
          | ((refine' Line.cons rfl (.run rfl rfl ?_) ?_)
             any_goals (first | exact cMove rfl rfl | exact cAssign rfl rfl | exact cEql rfl rfl rfl)
             rotate_left))
    intro a w3 hF hb hN
    have hBs := hB.size
    replace hB := hB.trans (hb.mono hB.size)
    dsimp only [ext, Option.getD] at hF
    repeat with_reducible first | refine wp_seq ?_ | refine nThen ?_ | refine wp_ret ?_ | refine rThen ?_
    refine ret1 hF rfl rfl fun z hz => ?_
    exact ⟨z, rfl, hz, hB⟩
set_option maxRecDepth 100000 in
theorem tz_ret (x : Nat) (hx : x < 18446744073709551616) (w : World) (hT0 : TabOk w) : Ret Tryd.prog 40 #[.int .u64 (x : Int)] w (Ty.ex (.int .i64 (Lib.ctz 64 x : Nat))) := by
  have hT := hT0
  unfold TabOk at hT
  clear hT0
  by_cases h0 : x = 0
  · subst h0
    exact tz_zero w
  · obtain ⟨hlow, hk⟩ := Lib.lowest_bit 64 x h0 hx
    have hkey := tz64_key x _ hx h0 hlow
    obtain ⟨hi, htab⟩ := Lib.deBruijn64_at _ hk
    generalize Lib.ctz 64 x = K at *
    clear hlow
    generalize hN1 : IntKind.u64.wrap (-(x : Int)) = N1 at hkey
    generalize hN2 : bits BinOp.and IntKind.u64 (x : Int) N1 = N2 at hkey
    generalize hN3 : IntKind.u64.wrap (N2 * 285870213051353865) = N3 at hkey
    have hN4 : N3.fdiv (2 ^ (58 : Int).toNat) = N3 / 288230376151711744 := by rw [e58, Int.fdiv_eq_ediv_of_nonneg _ (by decide)]
    rw [← hN4] at hkey
    clear hN4
    generalize 2 ^ K * 285870213051353865 % 18446744073709551616 / 288230376151711744 = I at *
    have hdr := drop_tab tab_len hi htab
    have htl : I < (Lib.deBruijn64tab.map bv).length := map_len tab_len hi
    generalize Lib.deBruijn64tab.map bv = TL at *
    refine enter_ty 14 [Ty.ex (.int .u64 (x : Int))] Tryd.func40 rfl (by kernel_rfl) ⟨rfl, trivial⟩ fun a hF => ?_
    have hB := Below.refl w.heap.size w
    repeat with_reducible first | refine wp_seq ?_ | refine nThen ?_ | refine wp_skip ?_ | refine wp_ret ?_
    refine' reg_all hF ?_ mixed (by kernel_rfl) ?_
    rotate_left
    · repeat (first
          | exact Line.nil
          | ((refine' Line.cons rfl (.run rfl rfl ?_) ?_)
             any_goals (first | exact cMove rfl rfl | exact cAssign rfl rfl | exact cEql rfl rfl rfl)
             rotate_left))
    intro a w1 hF hb hN
    have hBs := hB.size
    replace hB := hB.trans (hb.mono hB.size)
    dsimp only [ext, Option.getD] at hF
    repeat with_reducible first | refine wp_seq ?_ | refine nThen ?_ | refine wp_skip ?_ | refine wp_ret ?_
    refine' reg_all hF ?_ mixed (by kernel_rfl) ?_
    rotate_left
    · repeat (first
          | exact Line.nil
          | ((refine' Line.cons rfl (.run rfl rfl ?_) ?_)
             any_goals (first | exact cMove rfl rfl | exact cAssign rfl rfl | exact OpOk.b (c := false) (cEql rfl rfl rfl) (decide_eq_false (by omega)) | exact cEql rfl rfl rfl)
             rotate_left))
    intro a w2 hF hb hN
    have hBs := hB.size
    replace hB := hB.trans (hb.mono hB.size)
    dsimp only [ext, Option.getD] at hF
    repeat with_reducible first | refine wp_seq ?_ | refine nThen ?_ | refine wp_skip ?_ | refine wp_ret ?_
    refine cond_f hF rfl ?_
    repeat with_reducible first | refine wp_seq ?_ | refine nThen ?_ | refine wp_skip ?_ | refine wp_ret ?_
    have hT2 := (Ty.atR TL).below hT hB
    refine' reg_all hF ?_ mixed (by kernel_rfl) ?_
    rotate_left
    · repeat (first
          | exact Line.nil
          | ((refine' Line.cons rfl (.run rfl rfl ?_) ?_)
             any_goals (first | exact cMove rfl rfl | exact cAssign rfl rfl | exact cNegR rfl rfl hN1 | exact cAnd rfl rfl rfl hN2 | exact cMulR rfl rfl rfl hN3 | exact cShr (r := (I : Int)) rfl rfl rfl n58 hkey | exact cIndexArrR (k := I) rfl (.l rfl hT2) rfl Tryd.underlying130 sizeU hi htl | exact cLoad1 (u := bv K) rfl (Has.c (.t rfl) (fun W v h => hdr ▸ h)) (pts_atR _) Tryd.underlying5 rfl | exact cConvR (r := (K : Int)) rfl rfl Tryd.underlying5 Tryd.underlying3 (by simp [IntKind.wrap, IntKind.bits, IntKind.signed]; omega) | exact cEql rfl rfl rfl)
             rotate_left))
    intro a w3 hF hb hN
    have hBs := hB.size
    replace hB := hB.trans (hb.mono hB.size)
    dsimp only [ext, Option.getD] at hF
    repeat with_reducible first | refine wp_seq ?_ | refine nThen ?_ | refine wp_skip ?_ | refine wp_ret ?_
    refine ret1 hF rfl rfl fun z hz => ?_
    exact ⟨z, rfl, hz, hB⟩
end Go.Proofs.YtgmeagkolahkoaaDoor

/- Walks: the reference's keys; turned at all widths in use. -/
namespace Go.Proofs.YtgmeagkolahkoaaDoor
open Go.RowKit

def TurnOk (m : Int) : Prop := m = 2 ∨ m = 6 ∨ m = 7 ∨ m = 11 ∨ m = 13 ∨ m = 17 ∨ m = 18 ∨ m = 19 ∨ m = 22 ∨ m = 25
set_option maxRecDepth 100000 in
theorem turnedv_q (x : Nat) (m : Int) (hm : TurnOk m) (w : World) : Calls Tryd.prog 112 #[.int .u32 x, .int .u64 m] w fun e w' => e = .returned (.int .u32 (rot x m.natAbs)) ∧ w' = w := by
  rcases hm with rfl | rfl | rfl | rfl | rfl | rfl | rfl | rfl | rfl | rfl
  · exact turned2_q x w
  · exact turned6_q x w
  · exact turned7_q x w
  · exact turned11_q x w
  · exact turned13_q x w
  · exact turned17_q x w
  · exact turned18_q x w
  · exact turned19_q x w
  · exact turned22_q x w
  · exact turned25_q x w

set_option maxRecDepth 100000 in
set_option maxHeartbeats 1000000 in
theorem keys_any (w : World) :
    Calls Tryd.prog 111 #[] w fun e w' => e = .returned (.agg (u32s keysS)) ∧ Below w.heap.size w w' := by
  have h1 := one_keys
  have h2 := u32s_size keysS
  rw [keys_lit] at h1 h2 ⊢
  go_enter Tryd.func111, Tryd.ntmps111
  go_wp2_with (refine wpList_store_blk rfl 134 (.tmp 0) (.tmp 1) rfl w.heap.size 134 _ _ rfl rfl (Blk.new w _ _) rfl info64 h1 ?_; intro w' hB' hk')
  refine post_blk rfl rfl w.heap.size 134 _ _ rfl hB' Tryd.underlying134 rfl info64 ⟨rfl, ?_⟩
  exact (((Keeps.refl [] w).alloc _).trans' hk' (by simp)).below
end Go.Proofs.YtgmeagkolahkoaaDoor

/- The walk of the reference's block. -/
namespace Go.Proofs.YtgmeagkolahkoaaDoor
open Go.RowKit

set_option maxRecDepth 100000 in
theorem info8a : (Tryd.prog.info? 98).map (·.size) = some 8 := by kernel_rfl

set_option maxRecDepth 100000 in
set_option maxHeartbeats 6000000 in
theorem block_any (A : Option Addr) (cap : Nat) (st b : List Nat) (w : World) (hh : st.length = 8) (hl : b.length = 64) (hr : Rd w A (b.map bv)) (hx : ∀ x ∈ b, x < 256) :
    Calls Tryd.prog 109 #[.agg (u32s st), .slice A 64 cap] w fun e w' => e = .returned (.agg (u32s (blockS st b))) ∧ Below w.heap.size w w' := by
  have X := x32_eq
  have C := c32_eq
  have N := n32_eq
  have O := o32_eq
  have P1 := a32_eq
  have P2 := a32_eq'
  have R3 := r32_eq 3 8 (by decide)
  have R10 := r32_eq 10 1024 (by decide)
  have L24 := l32_eq 24 16777216 (by decide)
  have L16 := l32_eq 16 65536 (by decide)
  have L8 := l32_eq 8 256 (by decide)
  have M24 := l32_eq' 24 16777216 (by decide)
  have M16 := l32_eq' 16 65536 (by decide)
  have M8 := l32_eq' 8 256 (by decide)
  have hih := Lib.hid (info8a.trans (congrArg some ((u32s_size st).trans hh).symm))
  have hoh := u32s_one st
  have hk1 := u32s_one keysS
  have HB : Hid (blockS st b = List.zipWith a32 st (roundsS (wordsS b 64) st 64)) := rfl
  have HHH := Lib.hid hh
  have HRr := Lib.hid hr
  have HX := Lib.hid hx
  have HL := Lib.hid hl
  have hlB := blockS_len st b hh
  have HLB := Lib.hid hlB
  clear hh hr hx hl hlB
  generalize blockS st b = B at *
  go_enter Tryd.func109, Tryd.ntmps109
  go_wp2_with fail
  have hG0 : Blk ((w.alloc (.cells (u32s st) 98)).alloc (.cells (u32s (List.replicate 8 0)) 98)) w.heap.size 98 (u32s st) := (Blk.new w _ _).alloc _
  have hZ0 : Blk ((w.alloc (.cells (u32s st) 98)).alloc (.cells (u32s (List.replicate 8 0)) 98)) (w.heap.size + 1) 98 (u32s (List.replicate 8 0)) := Blk.newAt (w.alloc _) _ _ _ (by simp)
  have hb0 : Below w.heap.size w ((w.alloc (.cells (u32s st) 98)).alloc (.cells (u32s (List.replicate 8 0)) 98)) := (((Keeps.refl [] w).alloc _).alloc _).below
  refine (keys_any _).mono ?_
  rintro e w1 ⟨rfl, hb1⟩
  have hG1 := hG0.below hb1
  have hZ1 := hZ0.below hb1
  have hb2 := hb0.trans (hb1.mono hb0.size)
  clear hG0 hZ0 hb0 hb1
  go_wp2_with (refine wpList_store_blk rfl 134 (.tmp 5) (.tmp 16) rfl w1.heap.size 134 _ (u32s keysS) rfl rfl (Blk.new w1 _ _) rfl info64 hk1 ?_; intro w2 hK2 hk2)
  have hlz := hZ1.lt
  have hlk := hK2.lt
  have hG2 : Blk (w2.alloc (.cells (u32s (fillTo 64 [])) 134)) w.heap.size 98 (u32s st) := ((hG1.alloc _).keeps hk2 (by simp; omega)).alloc _
  have hZ2 : Blk (w2.alloc (.cells (u32s (fillTo 64 [])) 134)) (w.heap.size + 1) 98 (u32s (List.replicate 8 0)) := ((hZ1.alloc _).keeps hk2 (by simp; omega)).alloc _
  have hK3 : Blk (w2.alloc (.cells (u32s (fillTo 64 [])) 134)) w1.heap.size 134 (u32s keysS) := hK2.alloc _
  have hW : Blk (w2.alloc (.cells (u32s (fillTo 64 [])) 134)) w2.heap.size 134 (u32s (fillTo 64 (wordsS b 0))) := Blk.new w2 _ _
  have hb : Below w.heap.size w (w2.alloc (.cells (u32s (fillTo 64 [])) 134)) := (((Keeps.of_below (S := []) hb2).alloc _).trans' hk2 (by have := hb2.size; simp; omega)).alloc _ |>.below
  clear hG1 hZ1 hb2 hK2 hk2
  generalize w1.heap.size = gk at *
  generalize w2.heap.size = gw at *
  go_loopw [7] (fun i wr => ∃ k : Nat, k ≤ 16 ∧ i = .int .i64 k ∧ Blk wr w.heap.size 98 (u32s st) ∧ Blk wr (w.heap.size + 1) 98 (u32s (List.replicate 8 0)) ∧ Blk wr gk 134 (u32s keysS) ∧ Blk wr gw 134 (u32s (fillTo 64 (wordsS b k))) ∧ Below w.heap.size w wr) (fun i _ => 16 - (intOf i).toNat)
  case atStart => exact ⟨0, by omega, rfl, hG2, hZ2, hK3, hW, hb⟩
  case round =>
    clear hG2 hZ2 hK3 hW hb
    obtain ⟨k, hk, rfl, hG, hZ, hK, hB, hb⟩ := hrel
    by_cases hlt : k < 16
    · have hw : wordsS b (k + 1) = wordsS b k ++ [word4 (b.getD (4 * k) 0) (b.getD (4 * k + 1) 0) (b.getD (4 * k + 2) 0) (b.getD (4 * k + 3) 0)] := by rw [wordsS]; simp only [if_pos hlt]
      have HW := Lib.hid hw
      clear hw
      have hg : ∀ j, j < 64 → ∃ ad, A = some ad ∧ wr.cell? (ad.add j) = some (.int .u8 ((b.getD j 0 : Nat) : Int)) ∧ b.getD j 0 < 256 := fun j hj => by
        obtain ⟨ad, e, h⟩ := (HRr.out.below hb).at_ (j := j) (by simpa [HL.out] using hj)
        have hj' : j < b.length := by have := HL.out; omega
        refine ⟨ad, e, ?_, ?_⟩
        · rw [h]; simp [bv, List.getD, List.getElem?_eq_getElem hj']
        · simp only [List.getD, List.getElem?_eq_getElem hj', Option.getD_some]; exact HX.out _ (List.getElem_mem _)
      obtain ⟨ad, rfl, c0, l0⟩ := hg (4 * k) (by omega)
      obtain ⟨ad1, e, c1, l1⟩ := hg (4 * k + 1) (by omega)
      injection e with e; subst e
      obtain ⟨ad1, e, c2, l2⟩ := hg (4 * k + 2) (by omega)
      injection e with e; subst e
      obtain ⟨ad1, e, c3, l3⟩ := hg (4 * k + 3) (by omega)
      injection e with e; subst e
      clear hg
      generalize b.getD (4 * k) 0 = b0 at *
      generalize b.getD (4 * k + 1) 0 = b1 at *
      generalize b.getD (4 * k + 2) 0 = b2 at *
      generalize b.getD (4 * k + 3) 0 = b3 at *
      have s0 : wr.cell? ⟨gw, k, none⟩ = some (.int .u32 0) := by rw [hB.cell, fillTo_at (wordsS_len b k) (by omega)]
      have f0 := hB.frozen k
      have nG := hG.ne hB (by decide)
      have nZ := hZ.ne hB (by decide)
      go_wp2_with fail
      have e0 : IntKind.i64.wrap (4 * (k : Int)) = 4 * (k : Int) := IntWalk.i64_in _ (by omega)
      have e1 : IntKind.i64.wrap (4 * (k : Int) + 1) = 4 * (k : Int) + 1 := IntWalk.i64_in _ (by omega)
      have e2 : IntKind.i64.wrap (4 * (k : Int) + 2) = 4 * (k : Int) + 2 := IntWalk.i64_in _ (by omega)
      have e3 : IntKind.i64.wrap (4 * (k : Int) + 3) = 4 * (k : Int) + 3 := IntWalk.i64_in _ (by omega)
      have t0 : (4 * (k : Int)).toNat = 4 * k := by omega
      have t1 : (4 * (k : Int) + 1).toNat = 4 * k + 1 := by omega
      have t2 : (4 * (k : Int) + 2).toNat = 4 * k + 2 := by omega
      have t3 : (4 * (k : Int) + 3).toNat = 4 * k + 3 := by omega
      have p0 : (0 : Int) ≤ 4 * (k : Int) := by omega
      have p1 : (0 : Int) ≤ 4 * (k : Int) + 1 := by omega
      have p2 : (0 : Int) ≤ 4 * (k : Int) + 2 := by omega
      have p3 : (0 : Int) ≤ 4 * (k : Int) + 3 := by omega
      have q0 : 4 * (k : Int) < 64 := by omega
      have q1 : 4 * (k : Int) + 1 < 64 := by omega
      have q2 : 4 * (k : Int) + 2 < 64 := by omega
      have q3 : 4 * (k : Int) + 3 < 64 := by omega
      have d1 : wr.cell? ⟨ad.block, ad.off + (4 * k + 1), none⟩ = some (Value.int IntKind.u8 ↑b1) := by rw [← add_pos ad (4 * k + 1) (by omega)]; exact c1
      have d2 : wr.cell? ⟨ad.block, ad.off + (4 * k + 1 + 1), none⟩ = some (Value.int IntKind.u8 ↑b2) := by rw [← add_pos ad (4 * k + 1 + 1) (by omega)]; exact c2
      have d3 : wr.cell? ⟨ad.block, ad.off + (4 * k + 1 + 1 + 1), none⟩ = some (Value.int IntKind.u8 ↑b3) := by rw [← add_pos ad (4 * k + 1 + 1 + 1) (by omega)]; exact c3
      have r0 : (k : Int) < 64 := by omega
      have r1 : (0 : Int) ≤ (k : Int) := by omega
      have w0 := w32_byte l0
      have w1 := w32_byte l1
      have w2 := w32_byte l2
      have w3 := w32_byte l3
      go_still_tail 35, (by kernel_rfl)
      clear e0 e1 e2 e3 t0 t1 t2 t3 p0 p1 p2 p3 q0 q1 q2 q3 w0 w1 w2 w3 c0 c1 c2 c3 d1 d2 d3 l0 l1 l2 l3
      have HO : Hid (o32 (o32 (o32 (l32 b0 24) (l32 b1 16)) (l32 b2 8)) b3 = word4 b0 b1 b2 b3) := rfl
      generalize o32 (o32 (o32 (l32 b0 24) (l32 b1 16)) (l32 b2 8)) b3 = V at *
      have hS := hB.set k (.int .u32 (V : Int))
      rw [fillTo_set (wordsS_len b k) (by omega)] at hS
      go_wp2_with fail
      go_roundw
      case rel => exact ⟨k + 1, by omega, by go_num, (hG.far (p := ⟨gw, k, none⟩) (by simp; omega) _).drew, (hZ.far (p := ⟨gw, k, none⟩) (by simp; omega) _).drew, (hK.far (p := ⟨gw, k, none⟩) (by simp; omega) _).drew, by rw [HW.out, ← HO.out]; exact hS.drew, (hb.setCell (by simp; omega) _).drew⟩
      case measure => simp [intOf]; omega
    · obtain rfl : k = 16 := by omega
      rw [show ((16 : Nat) : Int) = 16 from rfl]
      clear L24 L16 L8 M24 M16 M8 HRr HX HL
      go_wp2_with fail
      generalize hWr : wr = w1 at *
      clear hWr
      go_loopw [8] (fun i wr => ∃ k : Nat, 16 ≤ k ∧ k ≤ 64 ∧ i = .int .i64 k ∧ Blk wr w.heap.size 98 (u32s st) ∧ Blk wr (w.heap.size + 1) 98 (u32s (List.replicate 8 0)) ∧ Blk wr gk 134 (u32s keysS) ∧ Blk wr gw 134 (u32s (fillTo 64 (wordsS b k))) ∧ Below w.heap.size w wr) (fun i _ => 64 - (intOf i).toNat)
      case atStart => exact ⟨16, by omega, by omega, rfl, hG, hZ, hK, hB, hb⟩
      case round =>
        clear hG hZ hK hB hb
        obtain ⟨k, hk1, hk2, rfl, hG, hZ, hK, hB, hb⟩ := hrel
        by_cases hlt : k < 64
        · have hw : wordsS b (k + 1) = wordsS b k ++ [wordN ((wordsS b k).getD (k - 16) 0) ((wordsS b k).getD (k - 15) 0) ((wordsS b k).getD (k - 7) 0) ((wordsS b k).getD (k - 2) 0)] := by rw [wordsS]; simp only [if_neg (show ¬ k < 16 by omega)]
          have HW := Lib.hid hw
          clear hw
          have hlen := wordsS_len b k
          have hC : ∀ w' : World, Blk w' gw 134 (u32s (fillTo 64 (wordsS b k))) →
              w'.cell? ⟨gw, k - 15, none⟩ = some (.int .u32 (((wordsS b k).getD (k - 15) 0 : Nat) : Int)) ∧
              w'.cell? ⟨gw, k - 2, none⟩ = some (.int .u32 (((wordsS b k).getD (k - 2) 0 : Nat) : Int)) ∧
              w'.cell? ⟨gw, k - 16, none⟩ = some (.int .u32 (((wordsS b k).getD (k - 16) 0 : Nat) : Int)) ∧
              w'.cell? ⟨gw, k - 7, none⟩ = some (.int .u32 (((wordsS b k).getD (k - 7) 0 : Nat) : Int)) ∧
              w'.cell? ⟨gw, k, none⟩ = some (.int .u32 0) := fun w' h => by
            simp only [h.cell]
            rw [fillTo_get (by omega), fillTo_get (by omega), fillTo_get (by omega), fillTo_get (by omega), fillTo_at hlen (by omega)]
            exact ⟨rfl, rfl, rfl, rfl, rfl⟩
          have HC := Lib.hid hC
          clear hC
          have hS := fun (w' : World) (h : Blk w' gw 134 (u32s (fillTo 64 (wordsS b k)))) (x : Nat) => h.set k (.int .u32 (x : Int))
          simp only [fillTo_set hlen hlt] at hS
          have HS := Lib.hid hS
          have nG := hG.ne hB (by decide)
          have nZ := hZ.ne hB (by decide)
          clear hS hlen
          generalize (wordsS b k).getD (k - 15) 0 = x15 at *
          generalize (wordsS b k).getD (k - 2) 0 = x2 at *
          generalize (wordsS b k).getD (k - 16) 0 = x16 at *
          generalize (wordsS b k).getD (k - 7) 0 = x7 at *
          have e15 : IntKind.i64.wrap ((k : Int) - 15) = (k : Int) - 15 := IntWalk.i64_in _ (by omega)
          have e2 : IntKind.i64.wrap ((k : Int) - 2) = (k : Int) - 2 := IntWalk.i64_in _ (by omega)
          have e16 : IntKind.i64.wrap ((k : Int) - 16) = (k : Int) - 16 := IntWalk.i64_in _ (by omega)
          have e7 : IntKind.i64.wrap ((k : Int) - 7) = (k : Int) - 7 := IntWalk.i64_in _ (by omega)
          have t15 : ((k : Int) - 15).toNat = k - 15 := by omega
          have t2 : ((k : Int) - 2).toNat = k - 2 := by omega
          have t16 : ((k : Int) - 16).toNat = k - 16 := by omega
          have t7 : ((k : Int) - 7).toNat = k - 7 := by omega
          have p15 : (0 : Int) ≤ (k : Int) - 15 := by omega
          have p2 : (0 : Int) ≤ (k : Int) - 2 := by omega
          have p16 : (0 : Int) ≤ (k : Int) - 16 := by omega
          have p7 : (0 : Int) ≤ (k : Int) - 7 := by omega
          have m16 : (16 : Int) ≤ (k : Int) := by omega
          have m7 : (7 : Int) ≤ (k : Int) := by omega
          have q15 : (k : Int) - 15 < 64 := by omega
          have q2 : (k : Int) - 2 < 64 := by omega
          have q16 : (k : Int) - 16 < 64 := by omega
          have q7 : (k : Int) - 7 < 64 := by omega
          have r0 : (k : Int) < 64 := by omega
          have r1 : (0 : Int) ≤ (k : Int) := by omega
          obtain ⟨c15, c2, -, -, -⟩ := HC.out wr hB
          go_wp2_with fail
          go_quiet (fail)
          replace hG := hG.drewN nq
          replace hZ := hZ.drewN nq
          replace hK := hK.drewN nq
          replace hB := hB.drewN nq
          replace hb := below_drewN hb nq
          clear c15 c2
          generalize wr.drewN nq = w2 at *
          obtain ⟨-, -, c16, c7, s0⟩ := HC.out w2 hB
          have f0 := hB.frozen k
          go_wp2_with fail
          refine wp_region_still_tail 29 (by kernel_rfl) (by kernel_rfl) ?_
          simp only [List.take_succ_cons, List.take_zero, List.drop_succ_cons, List.drop_zero]
          repeat (first | still_step | (still_call (turnedv_q _ _ (by unfold TurnOk; decide) _)))
          refine wpStill_nil ?_
          clear m16 m7 e15 e2 e16 e7 t15 t2 t16 t7 p15 p2 p16 p7 q15 q2 q16 q7 c16 c7
          have HO : Hid (a32 (a32 (a32 x16 (x32 (x32 (rot x15 7) (rot x15 18)) (r32 x15 3))) x7) (x32 (x32 (rot x2 17) (rot x2 19)) (r32 x2 10)) = wordN x16 x15 x7 x2) := rfl
          generalize a32 (a32 (a32 x16 (x32 (x32 (rot x15 7) (rot x15 18)) (r32 x15 3))) x7) (x32 (x32 (rot x2 17) (rot x2 19)) (r32 x2 10)) = V at *
          go_wp2_with fail
          go_roundw
          case rel => exact ⟨k + 1, by omega, by omega, by go_num, (hG.far (p := ⟨gw, k, none⟩) (by simp; omega) _).drew, (hZ.far (p := ⟨gw, k, none⟩) (by simp; omega) _).drew, (hK.far (p := ⟨gw, k, none⟩) (by simp; omega) _).drew, by rw [HW.out, ← HO.out]; exact (HS.out w2 hB V).drew, (hb.setCell (by simp; omega) _).drew⟩
          case measure => simp [intOf]; omega
        · obtain rfl : k = 64 := by omega
          rw [show ((64 : Nat) : Int) = 64 from rfl]
          clear R3 R10 O
          have hfull : fillTo 64 (wordsS b 64) = wordsS b 64 := by unfold fillTo; rw [wordsS_len]; simp
          rw [hfull] at hB
          clear hfull
          have hwl := wordsS_len b 64
          have HWL := Lib.hid hwl
          clear hwl
          have hk0 : keysS.length = 64 := rfl
          generalize wordsS b 64 = ws at *
          go_wp2_with (first
            | (refine wpList_load_blk rfl 98 (.tmp 2) rfl w.heap.size rfl 98 (u32s st) _ hG Tryd.underlying98 rfl hih.out ?_)
            | (refine wpList_store_blk rfl 98 (.tmp 11) (.tmp 97) rfl wr.heap.size 98 _ (u32s st) rfl rfl (Blk.new wr _ _) ((u32s_size st).trans HHH.out) hih.out hoh ?_; intro w5 hV hk5))
          have lG := hG.lt
          have lZ := hZ.lt
          have lK := hK.lt
          have lW := hB.lt
          have hG5 : Blk w5 w.heap.size 98 (u32s st) := (hG.alloc _).keeps hk5 (by simp; omega)
          have hZ5 : Blk w5 (w.heap.size + 1) 98 (u32s (List.replicate 8 0)) := (hZ.alloc _).keeps hk5 (by simp; omega)
          have hK5 : Blk w5 gk 134 (u32s keysS) := (hK.alloc _).keeps hk5 (by simp; omega)
          have hW5 : Blk w5 gw 134 (u32s ws) := (hB.alloc _).keeps hk5 (by simp; omega)
          have hb5 : Below w.heap.size w w5 := (((Keeps.of_below (S := []) hb).alloc _).trans' hk5 (by have := hb.size; simp; omega)).below
          have nv1 : w.heap.size + 1 < wr.heap.size := lZ
          clear hG hZ hK hB hb hk5 lG lK lW lZ
          generalize wr.heap.size = gv at *
          clear wr
          go_loopw [12] (fun i wr => ∃ k : Nat, k ≤ 64 ∧ i = .int .i64 k ∧ Blk wr w.heap.size 98 (u32s st) ∧ Blk wr (w.heap.size + 1) 98 (u32s (List.replicate 8 0)) ∧ Blk wr gw 134 (u32s ws) ∧ Blk wr gk 134 (u32s keysS) ∧ Blk wr gv 98 (u32s (roundsS ws st k)) ∧ Below w.heap.size w wr) (fun i _ => 64 - (intOf i).toNat)
          case atStart => exact ⟨0, by omega, rfl, hG5, hZ5, hW5, hK5, hV, hb5⟩
          case round =>
            clear hG5 hZ5 hW5 hK5 hV hb5
            obtain ⟨k, hk, rfl, hG, hZ, hW, hK, hV, hb⟩ := hrel
            by_cases hlt : k < 64
            · have hw : roundsS ws st (k + 1) = roundS (keysS.getD k 0) (ws.getD k 0) (roundsS ws st k) := rfl
              obtain ⟨va, vb, vc, vd, ve, vf, vg, vh, hv⟩ := len8 (roundsS_len ws st HHH.out k)
              rw [hv] at hw hV
              have HW := Lib.hid hw
              clear hw hv
              have cw : wr.cell? ⟨gw, k, none⟩ = some (.int .u32 ((ws.getD k 0 : Nat) : Int)) := by rw [hW.cell, u32s_get (by rw [HWL.out]; exact hlt)]
              have ck : wr.cell? ⟨gk, k, none⟩ = some (.int .u32 ((keysS.getD k 0 : Nat) : Int)) := by rw [hK.cell, u32s_get (by rw [hk0]; exact hlt)]
              have hC : ∀ w' : World, Blk w' gv 98 (u32s [va, vb, vc, vd, ve, vf, vg, vh]) →
                  w'.cell? ⟨gv, 0, none⟩ = some (.int .u32 (va : Int)) ∧ w'.cell? ⟨gv, 1, none⟩ = some (.int .u32 (vb : Int)) ∧ w'.cell? ⟨gv, 2, none⟩ = some (.int .u32 (vc : Int)) ∧ w'.cell? ⟨gv, 3, none⟩ = some (.int .u32 (vd : Int)) ∧
                  w'.cell? ⟨gv, 4, none⟩ = some (.int .u32 (ve : Int)) ∧ w'.cell? ⟨gv, 5, none⟩ = some (.int .u32 (vf : Int)) ∧ w'.cell? ⟨gv, 6, none⟩ = some (.int .u32 (vg : Int)) ∧ w'.cell? ⟨gv, 7, none⟩ = some (.int .u32 (vh : Int)) :=
                fun w' h => ⟨h.cell 0, h.cell 1, h.cell 2, h.cell 3, h.cell 4, h.cell 5, h.cell 6, h.cell 7⟩
              have HC := Lib.hid hC
              clear hC
              obtain ⟨c0, c1, c2, c3, c4, c5, c6, c7⟩ := HC.out wr hV
              have r0 : (k : Int) < 64 := by omega
              have r1 : (0 : Int) ≤ (k : Int) := by omega
              generalize ws.getD k 0 = xw at *
              generalize keysS.getD k 0 = xk at *
              go_wp2_with fail
              go_quiet ((go_at_call 112; exact Calls.quiet_of_same (turnedv_q _ _ (by unfold TurnOk; decide) _)))
              replace hG := hG.drewN nq
              replace hZ := hZ.drewN nq
              replace hW := hW.drewN nq
              replace hK := hK.drewN nq
              replace hV := hV.drewN nq
              replace hb := below_drewN hb nq
              clear c0 c1 c2 c3 c4 c5 c6 c7 cw ck
              generalize (wr).drewN nq = w6 at *
              clear nq
              obtain ⟨c0, c1, c2, c3, c4, c5, c6, c7⟩ := HC.out w6 hV
              go_wp2_with fail
              go_quiet ((go_at_call 112; exact Calls.quiet_of_same (turnedv_q _ _ (by unfold TurnOk; decide) _)))
              replace hG := hG.drewN nq
              replace hZ := hZ.drewN nq
              replace hW := hW.drewN nq
              replace hK := hK.drewN nq
              replace hV := hV.drewN nq
              replace hb := below_drewN hb nq
              clear c0 c1 c2 c3 c4 c5 c6 c7
              generalize (w6).drewN nq = w7 at *
              clear nq
              obtain ⟨c0, c1, c2, c3, c4, c5, c6, c7⟩ := HC.out w7 hV
              have f0 := hV.frozen 0
              have f1 := hV.frozen 1
              have f2 := hV.frozen 2
              have f3 := hV.frozen 3
              have f4 := hV.frozen 4
              have f5 := hV.frozen 5
              have f6 := hV.frozen 6
              have f7 := hV.frozen 7
              have ng := hG.lt
              go_wp2_with fail
              go_roundw
              case rel =>
                obtain ⟨hV8, hk9⟩ := round_store hV (a32 (sumE ve vf vg vh xk xw) (sumA va vb vc)) va vb vc (a32 vd (sumE ve vf vg vh xk xw)) ve vf vg
                rw [← roundS_eq, ← HW.out] at hV8
                unfold sumE sumA at hV8 hk9
                clear HC f0 f1 f2 f3 f4 f5 f6 f7 c0 c1 c2 c3 c4 c5 c6 c7
                simp only [a32_e2, a32_e3]
                have nW := hW.ne hV (by decide)
                have nK := hK.ne hV (by decide)
                exact ⟨k + 1, by omega, by go_num, hG.keeps hk9 (by simp; omega), hZ.keeps hk9 (by simp; omega), hW.keeps hk9 (by simpa using nW), hK.keeps hk9 (by simpa using nK), hV8, ((Keeps.of_below (S := []) hb).trans' hk9 (by simp; omega)).below⟩
              case measure => simp [intOf]; omega
            · obtain rfl : k = 64 := by omega
              rw [show ((64 : Nat) : Int) = 64 from rfl]
              have hv := roundsS_len ws st HHH.out 64
              have HV := Lib.hid hv
              clear hW hK hv
              generalize roundsS ws st 64 = v at *
              go_wp2_with fail
              generalize hwr : wr = w6 at *
              clear hwr
              go_loopw [15] (fun i wr => ∃ k : Nat, k ≤ 8 ∧ i = .int .i64 k ∧ Blk wr gv 98 (u32s v) ∧ Blk wr w.heap.size 98 (u32s (mixS st v k)) ∧ Blk wr (w.heap.size + 1) 98 (u32s (List.replicate 8 0)) ∧ Below w.heap.size w wr) (fun i _ => 8 - (intOf i).toNat)
              case atStart => exact ⟨0, by omega, rfl, hV, hG, hZ, hb⟩
              case round =>
                clear hV hG hZ hb
                obtain ⟨k, hk, rfl, hV, hG, hZ, hb⟩ := hrel
                by_cases hlt : k < 8
                · have cs : wr.cell? ⟨w.heap.size, k, none⟩ = some (.int .u32 ((st.getD k 0 : Nat) : Int)) := by rw [hG.cell, mixS_get HHH.out HV.out hlt]
                  have cv : wr.cell? ⟨gv, k, none⟩ = some (.int .u32 ((v.getD k 0 : Nat) : Int)) := by rw [hV.cell, u32s_get (by rw [HV.out]; exact hlt)]
                  have f0 := hG.frozen k
                  have hS := hG.set k (.int .u32 ((a32 (st.getD k 0) (v.getD k 0) : Nat) : Int))
                  rw [mixS_set HHH.out HV.out hlt] at hS
                  generalize st.getD k 0 = xs at *
                  generalize v.getD k 0 = xv at *
                  have r0 : (k : Int) < 8 := by omega
                  have r1 : (0 : Int) ≤ (k : Int) := by omega
                  go_wp2_with fail
                  go_still_tail 9, (by kernel_rfl)
                  go_wp2_with fail
                  go_roundw
                  case rel => exact ⟨k + 1, by omega, by go_num, (hV.far (p := ⟨w.heap.size, k, none⟩) (by simp; omega) _).drew, hS.drew, (hZ.far (p := ⟨w.heap.size, k, none⟩) (by simp) _).drew, (hb.setCell (p := ⟨w.heap.size, k, none⟩) (by simp) _).drew⟩
                  case measure => simp [intOf]; omega
                · obtain rfl : k = 8 := by omega
                  rw [mixS_all HHH.out HV.out, ← HB.out] at hG
                  have HSB : Hid ((u32s B).size = (u32s (List.replicate 8 0)).size) := by unfold Hid; rw [u32s_size, HLB.out]; rfl
                  have HIB := Lib.hid (info8a.trans (congrArg some ((u32s_size B).trans HLB.out).symm))
                  have HOB := Lib.hid (u32s_one B)
                  go_wp2_with (first
                    | (refine wpList_load_blk rfl 98 (.tmp 2) rfl w.heap.size rfl 98 (u32s B) _ hG Tryd.underlying98 rfl HIB.out ?_)
                    | (refine wpList_store_blk rfl 98 (.tmp 4) (.tmp 199) rfl (w.heap.size + 1) 98 _ (u32s B) rfl rfl hZ HSB.out HIB.out HOB.out ?_; intro w9 hB9 hk9))
                  refine post_blk rfl rfl (w.heap.size + 1) 98 (u32s B) _ rfl hB9 Tryd.underlying98 rfl HIB.out ⟨rfl, ?_⟩
                  exact ((Keeps.of_below (S := []) hb).trans' hk9 (by simp)).below
end Go.Proofs.YtgmeagkolahkoaaDoor

/- The walk of tallymanref1.Xor. -/
namespace Go.Proofs.YtgmeagkolahkoaaDoor
open Go.RowKit

theorem info47 : (Tryd.prog.info? 112).map (·.size) = some 32 := by kernel_rfl

set_option maxRecDepth 100000 in
set_option maxHeartbeats 1000000 in
theorem R1Xor_l (x y : List Nat) (hx : x.length = 32) (hy : y.length = 32) (w : World) :
    Calls Tryd.prog 81 #[.agg (u8s x), .agg (u8s y)] w fun e w' => e = .returned (.agg (u8s (xorL x y))) ∧ Below w.heap.size w w' := by
  have X := x8_eq
  have HX := Lib.hid hx
  have HY := Lib.hid hy
  have hR : (u8s (xorL x y)).size = 32 := by rw [u8s_size, xorL_len (by omega), hx]
  have HR := Lib.hid hR
  have HI := Lib.hid (info47.trans (congrArg some hR.symm))
  have H1 := Lib.hid (u8s_one (xorL x y))
  have HM := Lib.hid (mix8_all hx hy)
  clear hx hy hR
  generalize xorL x y = r at *
  go_enter Tryd.func81, Tryd.ntmps81
  go_wp2_with fail
  have h0 : Blk (((w.alloc (.cells (u8s x) 112)).alloc (.cells (u8s y) 112)).alloc (.cells (u8s (List.replicate 32 0)) 112)) w.heap.size 112 (u8s (mix8 x y 0)) := ((Blk.new w _ _).alloc _).alloc _
  have h1 : Blk (((w.alloc (.cells (u8s x) 112)).alloc (.cells (u8s y) 112)).alloc (.cells (u8s (List.replicate 32 0)) 112)) (w.heap.size + 1) 112 (u8s y) := (Blk.newAt (w.alloc _) _ _ _ (by simp)).alloc _
  have h2 : Blk (((w.alloc (.cells (u8s x) 112)).alloc (.cells (u8s y) 112)).alloc (.cells (u8s (List.replicate 32 0)) 112)) (w.heap.size + 1 + 1) 112 (u8s (List.replicate 32 0)) := Blk.newAt ((w.alloc _).alloc _) _ _ _ (by simp)
  have hb : Below w.heap.size w (((w.alloc (.cells (u8s x) 112)).alloc (.cells (u8s y) 112)).alloc (.cells (u8s (List.replicate 32 0)) 112)) := ((((Keeps.refl [] w).alloc _).alloc _).alloc _).below
  go_loopw [5] (fun i wr => ∃ k : Nat, k ≤ 32 ∧ i = .int .i64 k ∧ Blk wr w.heap.size 112 (u8s (mix8 x y k)) ∧ Blk wr (w.heap.size + 1) 112 (u8s y) ∧ Blk wr (w.heap.size + 1 + 1) 112 (u8s (List.replicate 32 0)) ∧ Below w.heap.size w wr) (fun i _ => 32 - (intOf i).toNat)
  case atStart => exact ⟨0, by omega, rfl, h0, h1, h2, hb⟩
  case round =>
    clear h0 h1 h2 hb
    obtain ⟨k, hk, rfl, h0, h1, h2, hb⟩ := hrel
    by_cases hk32 : k < 32
    · have c0 : wr.cell? ⟨w.heap.size, k, none⟩ = some (.int .u8 ((x.getD k 0 : Nat) : Int)) := by rw [h0.cell, u8s_get (by rw [mix8_len HX.out HY.out (by omega)]; exact hk32), mix8_get HX.out HY.out hk32]
      have c1 : wr.cell? ⟨w.heap.size + 1, k, none⟩ = some (.int .u8 ((y.getD k 0 : Nat) : Int)) := by rw [h1.cell, u8s_get (by rw [HY.out]; exact hk32)]
      have f0 := h0.frozen k
      have hS := h0.set k (.int .u8 ((x8 (x.getD k 0) (y.getD k 0) : Nat) : Int))
      rw [mix8_set HX.out HY.out hk32] at hS
      generalize x.getD k 0 = a at *
      generalize y.getD k 0 = b at *
      have r0 : (k : Int) < 32 := by omega
      have r1 : (0 : Int) ≤ (k : Int) := by omega
      go_wp2_with fail
      go_still_tail 9, (by kernel_rfl)
      go_wp2_with fail
      go_roundw
      case rel => exact ⟨k + 1, by omega, by go_num, hS.drew, (h1.far (p := ⟨w.heap.size, k, none⟩) (by simp) _).drew, (h2.far (p := ⟨w.heap.size, k, none⟩) (by simp; omega) _).drew, (hb.setCell (p := ⟨w.heap.size, k, none⟩) (by simp) _).drew⟩
      case measure => simp [intOf]; omega
    · obtain rfl : k = 32 := by omega
      rw [HM.out] at h0
      have HZ : Hid ((u8s r).size = (u8s (List.replicate 32 0)).size) := by unfold Hid; rw [HR.out, u8s_size]; rfl
      go_wp2_with (first
        | (refine wpList_load_blk rfl 112 (.tmp 2) rfl w.heap.size rfl 112 (u8s r) _ h0 Tryd.underlying112 rfl HI.out ?_)
        | (refine wpList_store_blk rfl 112 (.tmp 4) (.tmp 19) rfl (w.heap.size + 1 + 1) 112 _ (u8s r) rfl rfl h2 HZ.out HI.out H1.out ?_; intro w' hB' hk'))
      refine post_blk rfl rfl (w.heap.size + 1 + 1) 112 (u8s r) _ rfl hB' Tryd.underlying112 rfl HI.out ⟨rfl, ?_⟩
      exact ((Keeps.of_below (S := []) hb).trans' hk' (by simp; omega)).below
theorem R1Xor_any (x y : Sm) (w : World) :
    Calls Tryd.prog 81 #[.agg (u8s x.l), .agg (u8s y.l)] w fun e w' => e = .returned (.agg (u8s (x.xor y).l)) ∧ Below w.heap.size w w' := R1Xor_l x.l y.l x.len y.len w
end Go.Proofs.YtgmeagkolahkoaaDoor

/- append to a slice of bytes of the call's own. -/
namespace Go.Proofs.YtgmeagkolahkoaaDoor
open Go.RowKit

theorem info_byte : (Tryd.prog.info? 5).map (fun i => (i.zero, i.size, i.bytes)) = some (some (.int .u8 0), 1, 1) := by kernel_rfl
theorem bv_one (l : List Nat) : ∀ u ∈ l.map bv, u.oneCell' = true := by intro u hu; simp at hu; obtain ⟨x, _, rfl⟩ := hu; rfl

section
variable {ops : Array Oper} {rest : List Oper} {o : Oper} {a : Act} {w : World} {K : Act → World → Prop} {Q : Exit → Act → World → Prop}
theorem wp_app (s x : Operand) (ho : o.op = .call { callee := .builtin .append, args := #[s, x], argTypes := #[64, 64] })
    (v : Value) (n : Nat) (xs : List Value) (S : List Nat) (hs : a.eval s = v) (hown : Own w 1 v n xs S)
    (A : Option Addr) (m c : Nat) (l : List Nat) (hx : a.eval x = .slice A m c) (hl : l.length = m) (hr : Rd w A (l.map bv)) (hA : A = none → m = 0) (hn : n + m ≤ 140737488355328)
    (h : ∀ A' c' w' S', Own w' 1 (.slice A' (n + m) c') (n + m) (xs ++ l.map bv) S' → Keeps S w w' → (S' = S ∨ S' = [w.heap.size]) → n + m ≤ c' → c' ≤ maxLen → (A' = none → n + m = 0 ∧ c' = 0) → K (a.put o.dst (.slice A' (n + m) c')) w') : o.wp Tryd.prog a w K Q := by
  refine wp_append_ownc w s x 64 ho 5 (.int .u8 0) 1 1 Tryd.underlying64 info_byte rfl v n xs S hs hown A m c (l.map bv) hx (by simp [hl]) hr hA (bv_one l) (by unfold maxLen; omega) (by omega) ?_
  intro v' w' S' h1 h2 h3
  obtain ⟨A', c', rfl, h4, h5, _, h6⟩ := h1.form
  exact h A' c' w' S' h1 h2 h3 h4 h5 h6
theorem wpList_app (hgd : o.guard = none) (s x : Operand) (ho : o.op = .call { callee := .builtin .append, args := #[s, x], argTypes := #[64, 64] })
    (v : Value) (n : Nat) (xs : List Value) (S : List Nat) (hs : a.eval s = v) (hown : Own w 1 v n xs S)
    (A : Option Addr) (m c : Nat) (l : List Nat) (hx : a.eval x = .slice A m c) (hl : l.length = m) (hr : Rd w A (l.map bv)) (hA : A = none → m = 0) (hn : n + m ≤ 140737488355328)
    (h : ∀ A' c' w' S', Own w' 1 (.slice A' (n + m) c') (n + m) (xs ++ l.map bv) S' → Keeps S w w' → (S' = S ∨ S' = [w.heap.size]) → n + m ≤ c' → c' ≤ maxLen → (A' = none → n + m = 0 ∧ c' = 0) → wpList Tryd.prog ops Q rest (a.put o.dst (.slice A' (n + m) c')) w') :
    wpList Tryd.prog ops Q (o :: rest) a w :=
  wpList_plain hgd fun _ hK => wp_app s x ho v n xs S hs hown A m c l hx hl hr hA hn fun A' c' w' S' h1 h2 h3 h4 h5 h6 => hK _ _ (h A' c' w' S' h1 h2 h3 h4 h5 h6)
end
end Go.Proofs.YtgmeagkolahkoaaDoor

/- A load of a known run, as a still step. -/
namespace Go.Proofs.YtgmeagkolahkoaaDoor
open Go.RowKit

theorem wpStill_load {P : Program} {ops : Array Oper} {w : World} {Q : Act → Prop} {rest : List Oper} {o : Oper} {a : Act} (hgd : o.guard = none) (ty : TypeId) (x : Operand) (ho : o.op = .load ty x) (u v : Value) (hx : a.eval x = u)
    (hl : (Instr.loadAt ty u).run P w = .ok v w) (h : wpStill P ops w Q rest (a.put o.dst v)) : wpStill P ops w Q (o :: rest) a := by
  refine wpStill_step (fun K hK => ?_)
  rw [if_pos (by simp [Region.wanted, hgd])]
  unfold Oper.still execOp
  simp only [ho, hx]
  simp [hl, Oper.stillUpon, hK _ h]
/-- A whole block, loaded. -/
theorem load_blk {P : Program} {w : World} {g : Nat} {t ty : TypeId} {cs : Array Value} {d : TypeDesc} (hB : Blk w g t cs)
    (hu : P.underlying ty = some d) (hd : (match d with | .struct _ | .array _ _ => true | _ => false) = true) (hi : (P.info? ty).map (·.size) = some cs.size) :
    (Instr.loadAt ty (.pointer (some ⟨g, 0, none⟩))).run P w = .ok (.agg cs) w := by
  simp only [Instr.loadAt, Instr.sureAddr, Sem.run_bind, Sem.run_pure, Result.andThen_ok, run_loadVar_row w g t ty cs (0, 0) d hB hu hd hi]
end Go.Proofs.YtgmeagkolahkoaaDoor

/- Words: slices of slices of bytes. -/
namespace Go.Proofs.YtgmeagkolahkoaaDoor
open Go.RowKit

theorem later {w w' : World} {p : Addr} {v : Value} (hb : Below w.heap.size w w') (h : w.cell? p = some v) : w'.cell? p = some v :=
  (hb.cell (World.block_lt_of_cell? w _ h)).trans h

/-- Where what stands from f on lies. -/
def subA (A : Option Addr) (cap f : Nat) : Option Addr := if cap = f then A else A.map (·.add f)
theorem slice_mid (A : Option Addr) (n cap f t : Nat) (h1 : f ≤ t) (h2 : t ≤ cap) (W : World) :
    (Instr.slice 64 (.slice A n cap) (some (.int .i64 (f : Int))) (some (.int .i64 (t : Int))) none).run Tryd.prog W = .ok (.slice (subA A cap f) (t - f) (cap - f)) W := by
  have h4 : (t : Int) ≤ (cap : Int) := by omega
  have h6 : ¬ t < f := by omega
  simp [Instr.slice, run_underlying Tryd.underlying64, go_sem, h4, h6, Tryd.sizeOf5, subA]
theorem subA_rd {w : World} {A : Option Addr} {cap f t : Nat} {b : List Nat} (hr : Rd w A (b.map bv)) (hc : b.length ≤ cap) (_ht : t ≤ b.length) : Rd w (subA A cap f) (((b.take t).drop f).map bv) := by
  have h := (hr.take t).drop f (c := cap) (fun hne e => hne (List.drop_of_length_le (by rw [List.length_take, List.length_map]; omega)))
  rw [List.map_drop, List.map_take]
  exact h
end Go.Proofs.YtgmeagkolahkoaaDoor

/- The walk of the reference's Of. -/
namespace Go.Proofs.YtgmeagkolahkoaaDoor
open Go.RowKit

theorem step_own2 {w wr w' : World} {S S' : List Nat} {o : Obj} {t t' : TypeId} {cs cs' : Array Value} (hZ : Blk wr w.heap.size t cs) (hG : Blk wr (w.heap.size + 1) t' cs') (hb : Below w.heap.size w wr) (hS : ∀ x ∈ S, w.heap.size + 2 ≤ x)
    (hk : Keeps S (wr.alloc o) w') (hS' : S' = S ∨ S' = [(wr.alloc o).heap.size]) : Blk w' w.heap.size t cs ∧ Blk w' (w.heap.size + 1) t' cs' ∧ Below w.heap.size w w' ∧ ∀ x ∈ S', w.heap.size + 2 ≤ x := by
  have hl := hG.lt
  have hn : w.heap.size ∉ S := fun hx => by have := hS _ hx; omega
  have hn2 : w.heap.size + 1 ∉ S := fun hx => by have := hS _ hx; omega
  refine ⟨(hZ.alloc o).keeps hk hn, (hG.alloc o).keeps hk hn2, (((Keeps.of_below (S := []) hb).alloc o).trans' hk (fun x hx => .inr (by have := hS x hx; omega))).below, ?_⟩
  rcases hS' with rfl | rfl
  · exact hS
  · intro x hx
    simp at hx
    omega

set_option maxRecDepth 100000 in
set_option maxHeartbeats 4000000 in
theorem R1Of_any (A : Option Addr) (L cap : Nat) (l : List Nat) (w : World) (hl : l.length = L) (hr : Rd w A (l.map bv)) (hA : A = none → L = 0) (hx : ∀ x ∈ l, x < 256) (hn : L ≤ 1099511627776) :
    Calls Tryd.prog 101 #[.slice A L cap] w fun e w' => e = .returned (.agg (u8s (shaL l))) ∧ Below w.heap.size w w' := by
  have HL := Lib.hid hl
  have HR : Hid (shaL l = (blocksS beginS ((padS l).length / 64) (padS l)).flatMap bytes4) := rfl
  have h1 := one_begin
  rw [begin_lit] at h1
  have h4 : ∀ w', Blk w' (w.heap.size + 1) 98 #[.int .u32 1779033703, .int .u32 3144134277, .int .u32 1013904242, .int .u32 2773480762, .int .u32 1359893119, .int .u32 2600822924, .int .u32 528734635, .int .u32 1541459225] → Blk w' (w.heap.size + 1) 98 (u32s beginS) := fun w' h => by rw [begin_lit]; exact h
  have H4 := Lib.hid h4
  clear hl h4
  generalize shaL l = R at *
  go_enter Tryd.func101, Tryd.ntmps101
  have hb0 : Below w.heap.size w ((w.alloc (.cells (u8s (List.replicate 32 0)) 112)).alloc (.cells (u32s (List.replicate 8 0)) 98)) := (((Keeps.refl [] w).alloc _).alloc _).below
  have hZ0 : Blk ((w.alloc (.cells (u8s (List.replicate 32 0)) 112)).alloc (.cells (u32s (List.replicate 8 0)) 98)) w.heap.size 112 (u8s (List.replicate 32 0)) := (Blk.new w _ _).alloc _
  have hr0 : Rd ((w.alloc (.cells (u8s (List.replicate 32 0)) 112)).alloc (.cells (u32s (List.replicate 8 0)) 98)) A (l.map bv) := hr.below hb0
  have HA : ∀ ad, A = some ad → 0 < L → ad.block ≠ w.heap.size + 1 := fun ad e h0 hne => by
    obtain ⟨ad', e', h⟩ := hr.at_ (j := 0) (by rw [List.length_map, HL.out]; exact h0)
    have := World.block_lt_of_cell? w _ h
    rw [e] at e'; injection e' with e'; subst e'
    rw [add_block] at this; omega
  have HA2 := Lib.hid HA
  have hrn : L = 0 → l = [] := fun h => List.eq_nil_of_length_eq_zero (by rw [HL.out]; exact h)
  have HRN := Lib.hid hrn
  clear HA hr hrn
  go_wp2_with (first
    | (refine wpList_store_blk rfl 98 (.tmp 3) (.tmp 10) rfl (w.heap.size + 1) 98 _ _ rfl rfl (Blk.newAt (w.alloc _) _ _ _ (by simp)) rfl info8a h1 ?_
       intro w1 hB1 hk1
       have hG1 := H4.out w1 hB1
       have hZ1 : Blk w1 w.heap.size 112 (u8s (List.replicate 32 0)) := hZ0.keeps hk1 (by simp)
       have hb1 : Below w.heap.size w w1 := ((Keeps.of_below (S := []) hb0).trans' hk1 (by simp)).below
       have hr1 : Rd w1 A (l.map bv) := by
         rcases Nat.eq_zero_or_pos L with h | h
         · rw [HRN.out h]; exact Rd.nil _ _
         · exact hr0.keeps hk1 (fun ad e => by simpa using HA2.out ad e h)
       clear hk1 hB1 hZ0 hb0 hr0)
    | (at_builtin
       refine wpList_app rfl (.tmp 11) (.tmp 12) rfl (.slice (some ⟨w1.heap.size, 0, none⟩) 0 0) 0 [] [] (by rfl) ⟨by simp, .inl ⟨_, rfl, rfl, rfl⟩⟩ A L cap l (by rfl) HL.out (hr1.alloc _) hA (by omega) ?_
       intro A2 c2 w2 S2 hO2 hk2 hS2 hc2 hm2 _
       rw [Nat.zero_add, List.nil_append] at hO2
       have hS2a : S2 = [] ∨ S2 = [(w1.alloc (.cells #[] 5)).heap.size] := hS2
       have hS2b : ∀ x ∈ S2, w.heap.size + 2 ≤ x := by
         have hl1 := hG1.lt
         rcases hS2a with rfl | rfl
         · simp
         · intro x hx; simp at hx; omega
       have hZ2 := (hZ1.alloc (.cells #[] 5)).keeps hk2 (by simp)
       have hG2 := (hG1.alloc (.cells #[] 5)).keeps hk2 (by simp)
       have hb2 : Below w.heap.size w w2 := (((Keeps.of_below (S := []) hb1).alloc (.cells #[] 5)).trans hk2).below
       clear hS2 hS2a hk2 hZ1 hG1 hb1)
    | (at_builtin
       refine app_byte rfl (.tmp 13) (.tmp 14) rfl (.slice A2 L c2) L (l.map bv) S2 (by rfl) (hO2.alloc _) w2.heap.size 128 (by rfl) (cell_one_new _ _ _ 0 _ rfl) (by omega) ?_
       intro A3 c3 w3 S3 hown2 hk2 hS2 hc2 hm2))
  obtain ⟨hZ3, hG3, hb3, hS3'⟩ := step_own2 hZ2 hG2 hb2 hS2b hk2 hS2
  have h128 := map_bv_snoc l 128
  rw [show ((128 : Nat) : Int) = 128 from rfl] at h128
  rw [← h128, ← padTo_start, HL.out] at hown2
  clear h128
  have HF : Hid (fillS L = (119 - L % 64) % 64) := rfl
  have hF : fillS L < 64 := Nat.mod_lt _ (by omega)
  clear hk2 hS2 hO2 hS2b h1 hA HA2 HRN hr1 hZ2 hG2 hb2
  go_loopw [4] (fun v wr => ∃ (m : Nat) (S : List Nat) (A : Option Addr) (c : Nat), L + 1 ≤ m ∧ m ≤ L + 1 + fillS L ∧ v = .slice A m c ∧ Own wr 1 (.slice A m c) m ((padTo l m).map bv) S ∧ m ≤ c ∧ c ≤ maxLen ∧ (∀ x ∈ S, w.heap.size + 2 ≤ x) ∧
      Blk wr w.heap.size 112 (u8s (List.replicate 32 0)) ∧ Blk wr (w.heap.size + 1) 98 (u32s beginS) ∧ Below w.heap.size w wr) (fun v _ => L + 1 + fillS L - lenV v)
  case atStart => exact ⟨L + 1, S3, A3, c3, Nat.le_refl _, by omega, rfl, hown2, hc2, hm2, hS3', hZ3, hG3, hb3⟩
  case round =>
    clear hown2 hc2 hm2 hS3' hZ3 hG3 hb3
    obtain ⟨m, S, Am, cm, hm1, hm2, rfl, hown, hc, hcm, hS, hZ, hG, hb⟩ := hrel
    by_cases hlt2 : m < L + 1 + fillS L
    · have hne : m % 64 ≠ 56 := by have := HF.out; omega
      have hq : (((m : Int) % 64) == 56) = false := by rw [beq_eq_false_iff_ne]; omega
      have hq2 : (((m : Int) % 64) != 56) = true := by rw [bne_iff_ne]; omega
      clear hne
      go_wp2_with (at_builtin; refine app_byte rfl (.tmp 20) (.tmp 21) rfl (.slice Am m cm) m _ S (by rfl) (hown.alloc _) wr.heap.size 0 (by rfl) (cell_one_new _ _ _ 0 _ rfl) (by omega) ?_; intro A3 c3 w3 S3 hown3 hk3 hS3 hc3 hm3)
      obtain ⟨hZ3, hG3, hb3, hS3'⟩ := step_own2 hZ hG hb hS hk3 hS3
      have h0 := map_bv_snoc (padTo l m) 0
      rw [show ((0 : Nat) : Int) = 0 from rfl] at h0
      rw [← h0, ← padTo_succ _ _ (by rw [HL.out]; exact hm1)] at hown3
      go_roundw
      case rel => exact ⟨m + 1, S3, A3, c3, by omega, by omega, rfl, hown3, hc3, hm3, hS3', hZ3, hG3, hb3⟩
      case measure => simp only [lenV]; omega
    · obtain rfl : m = L + 1 + fillS L := by omega
      have hM : (L + 1 + fillS L) % 64 = 56 := by have := HF.out; omega
      have HM := Lib.hid hM
      have hq : (((L + 1 + fillS L : Nat) : Int) % 64 == 56) = true := by rw [beq_iff_eq]; omega
      have hq2 : (((L + 1 + fillS L : Nat) : Int) % 64 != 56) = false := by rw [bne_eq_false_iff_eq]; omega
      have HP2 : Hid (padTo l (L + 1 + fillS L) = l ++ [128] ++ List.replicate (fillS L) 0) := by unfold Hid padTo; rw [HL.out, show L + 1 + fillS L - (L + 1) = fillS L by omega]
      have hPl := padTo_len l (L + 1 + fillS L) (by rw [HL.out]; omega)
      have HPl := Lib.hid hPl
      clear hPl hM hm1 hm2 hlt2
      generalize padTo l (L + 1 + fillS L) = P at *
      have hmb : L + 1 + fillS L ≤ 1099511627840 := by omega
      generalize L + 1 + fillS L = m at *
      go_wp2_with fail
      generalize hwr : wr = w4 at *
      clear hwr
      go_loopw [4, 6] (fun v i wr => ∃ (k : Nat) (S : List Nat) (A : Option Addr) (c : Nat), k ≤ 8 ∧ i = .int .i64 k ∧ v = .slice A (m + k) c ∧ Own wr 1 (.slice A (m + k) c) (m + k) ((P ++ (lenS (L * 8)).take k).map bv) S ∧ m + k ≤ c ∧ c ≤ maxLen ∧ (∀ x ∈ S, w.heap.size + 2 ≤ x) ∧
        Blk wr w.heap.size 112 (u8s (List.replicate 32 0)) ∧ Blk wr (w.heap.size + 1) 98 (u32s beginS) ∧ Below w.heap.size w wr) (fun v _ _ => m + 8 - lenV v)
      case atStart => exact ⟨0, S, Am, cm, by omega, rfl, rfl, by simpa using hown, hc, hcm, hS, hZ, hG, hb⟩
      case round =>
        clear hown hc hcm hS hZ hG hb
        obtain ⟨k, S, Ak, ck, hk, rfl, rfl, hown, hc, hcm, hS, hZ, hG, hb⟩ := hrel
        by_cases hk8 : k < 8
        · have i0 : (0 : Int) ≤ 56 - 8 * (k : Int) := by omega
          have i1 : 56 - 8 * (k : Int) ≤ 64 := by omega
          have hv := lenS_get (L * 8) k hk8
          rw [show ((L * 8 : Nat) : Int) = (L : Int) * 8 by omega] at hv
          have HV := Lib.hid hv
          clear hv
          go_wp2_with (at_builtin; refine app_byte rfl (.tmp 31) (.tmp 39) rfl (.slice Ak (m + k) ck) (m + k) _ S (by rfl) (hown.alloc _) wr.heap.size _ (by rfl) (cell_one_new _ _ _ 0 _ rfl) (by omega) ?_; intro A3 c3 w3 S3 hown3 hk3 hS3 hc3 hm3)
          obtain ⟨hZ3, hG3, hb3, hS3'⟩ := step_own2 hZ hG hb hS hk3 hS3
          rw [HV.out, ← map_bv_snoc, List.append_assoc, ← lenS_take _ _ hk8] at hown3
          exact ⟨⟨k + 1, S3, A3, c3, by omega, by go_num, rfl, hown3, hc3, hm3, hS3', hZ3, hG3, hb3⟩, by simp only [lenV]; omega⟩
        · obtain rfl : k = 8 := by omega
          rw [show ((8 : Nat) : Int) = 8 from rfl]
          rw [List.take_of_length_le (by simp [lenS])] at hown
          have hpad : P ++ lenS (L * 8) = padS l := by rw [HP2.out]; unfold padS; rw [HL.out]
          rw [hpad] at hown
          have hpl : (padS l).length = m + 8 := by rw [← hpad, List.length_append, HPl.out]; rfl
          have hpx : ∀ x ∈ padS l, x < 256 := by
            intro x hx'
            rw [← hpad, HP2.out] at hx'
            simp only [List.mem_append, List.mem_singleton, List.mem_replicate] at hx'
            rcases hx' with ((hx' | hx') | hx') | hx'
            · exact hx x hx'
            · omega
            · omega
            · simp only [lenS, List.mem_cons, List.not_mem_nil, or_false] at hx'; omega
          have hq : (m + 8) % 64 = 0 := by have := HM.out; omega
          have HR2 : Hid (R = (blocksS beginS ((m + 8) / 64) (padS l)).flatMap bytes4) := by rw [← hpl]; exact HR
          have HPL := Lib.hid hpl
          have HPX := Lib.hid hpx
          clear hpad hpl hpx HP2 HPl HR HM hx
          generalize padS l = p at *
          have hbb : m + 8 ≤ 1099511627848 := by omega
          obtain ⟨qn, hqn⟩ : ∃ qn, m + 8 = 64 * qn := ⟨(m + 8) / 64, by omega⟩
          have hqd : (m + 8) / 64 = qn := by omega
          rw [hqd] at HR2
          have HQ := Lib.hid hqn
          have hrd := hown.rd
          have hnil : Ak = none → qn = 0 := fun e => by
            rcases Nat.eq_zero_or_pos (m + 8) with h0 | h0
            · omega
            · obtain ⟨ad', e', _⟩ := hown.addr h0
              rw [e] at e'; cases e'
          have hsep : ∀ ad, Ak = some ad → 0 < m + 8 → w.heap.size + 2 ≤ ad.block := fun ad e h0 => by
            obtain ⟨ad', e', hm⟩ := hown.addr h0
            rw [e] at e'
            injection e' with e'
            subst e'
            exact hS _ hm
          rw [hqn] at hc hbb hsep HPL ⊢
          clear hqn hqd hq hmb hown hS HQ HF hF
          go_wp2_with fail
          generalize hwr : wr = w5 at *
          clear hwr
          go_loopw [7] (fun i wr => ∃ (j f : Nat) (st : List Nat), j ≤ qn ∧ f = 64 * j ∧ i = .int .i64 f ∧ Hid (st.length = 8) ∧ Blk wr (w.heap.size + 1) 98 (u32s st) ∧ Blk wr w.heap.size 112 (u8s (List.replicate 32 0)) ∧ Rd wr Ak (p.map bv) ∧ Below w.heap.size w wr ∧
            Hid (blocksS beginS qn p = blocksS st (qn - j) (p.drop f))) (fun i _ => 64 * qn - (intOf i).toNat)
          case atStart => exact ⟨0, 0, beginS, by omega, rfl, rfl, rfl, hG, hZ, hrd, hb, by unfold Hid; rw [List.drop_zero]; rfl⟩
          case round =>
            clear hG hZ hrd hb
            obtain ⟨j, f, st, hj, hf, rfl, Hst, hG, hZ, hrd, hb, HE⟩ := hrel
            by_cases hjq : j < qn
            · have hsl : ∀ W, (Instr.slice 64 (.slice Ak (64 * qn) ck) (some (.int .i64 (f : Int))) (some (.int .i64 ((f : Int) + 64))) none).run Tryd.prog W = .ok (.slice (subA Ak ck f) 64 (ck - f)) W := fun W => by
                have h := slice_mid Ak (64 * qn) ck f (f + 64) (by omega) (by omega) W
                rw [show f + 64 - f = 64 by omega, show ((f + 64 : Nat) : Int) = (f : Int) + 64 by omega] at h
                exact h
              have e1 : IntKind.i64.wrap ((f : Int) + 64) = (f : Int) + 64 := IntWalk.i64_in _ (by omega)
              have hfq : (f : Int) < ((64 * qn : Nat) : Int) := by omega
              have hi8 := info8a.trans (congrArg some ((u32s_size st).trans Hst.out).symm)
              have hld := load_blk hG.drew Tryd.underlying98 rfl hi8
              have hblk := subA_rd (cap := ck) (f := f) (t := f + 64) hrd.drew (by rw [HPL.out]; exact hc) (by rw [HPL.out]; omega)
              have hbl : ((p.take (f + 64)).drop f).length = 64 := by rw [List.length_drop, List.length_take, HPL.out]; omega
              have hE2 : blocksS st (qn - j) (p.drop f) = blocksS (blockS st ((p.take (f + 64)).drop f)) (qn - (j + 1)) (p.drop (f + 64)) := by
                obtain ⟨q, hq⟩ : ∃ q, qn - j = q + 1 := ⟨qn - j - 1, by omega⟩
                rw [hq, show qn - (j + 1) = q by omega, blocksS_all, List.drop_drop, List.drop_take, show f + 64 - f = 64 by omega]
              have HSL := Lib.hid hsl
              have HLD := Lib.hid hld
              have HE2 := Lib.hid (HE.out.trans hE2)
              have HB8 := Lib.hid hi8
              have hS8 := u32s_one (blockS st ((p.take (f + 64)).drop f))
              have hL8 := blockS_len st ((p.take (f + 64)).drop f) Hst.out
              have HL8 := Lib.hid hL8
              have hbk := block_any (subA Ak ck f) (ck - f) st ((p.take (f + 64)).drop f) wr.drew Hst.out hbl hblk (fun x hx => HPX.out x (List.mem_of_mem_take (List.mem_of_mem_drop hx)))
              have HBK := Lib.hid hbk
              have HF := Lib.hid hf
              have hfb : f + 64 ≤ 64 * qn := by omega
              clear hsl hld hE2 HE hi8 hblk hbl hL8 hbk hf
              generalize blockS st ((p.take (f + 64)).drop f) = st2 at *
              go_wp2_with fail
              have hsl := HSL.out
              refine wp_region_still_tail 6 (by kernel_rfl) (by kernel_rfl) ?_
              simp only [List.take_succ_cons, List.take_zero, List.drop_succ_cons, List.drop_zero]
              refine wpStill_load rfl 98 (.tmp 3) rfl _ _ rfl HLD.out ?_
              repeat still_step
              refine wpStill_nil ?_
              clear hsl
              go_wp2_with fail
              refine HBK.out.mono ?_
              rintro e w6 ⟨rfl, hb6⟩
              have hG6 := hG.drew.below hb6
              have HS8 : Hid ((u32s st2).size = (u32s st).size) := by unfold Hid; rw [u32s_size, u32s_size, HL8.out, Hst.out]
              have HI8 := Lib.hid (info8a.trans (congrArg some ((u32s_size st2).trans HL8.out).symm))
              go_wp2_with (refine wpList_store_blk rfl 98 (.tmp 3) (.tmp 53) rfl (w.heap.size + 1) 98 _ (u32s st2) rfl rfl hG6 HS8.out HI8.out hS8 ?_; intro w7 hB7 hk7)
              go_roundw
              case rel =>
                exact ⟨j + 1, f + 64, st2, by omega, by have := HF.out; omega, by go_num, HL8, hB7, (hZ.drew.below hb6).keeps hk7 (by simp), (hrd.drew.below hb6).keeps hk7 (fun ad e => by have := hsep ad e (by omega); simp; omega),
                  ((Keeps.of_below (S := []) (hb.drew.trans (hb6.mono hb.size))).trans' hk7 (by simp)).below, HE2⟩
              case measure => simp [intOf]; omega
            · obtain rfl : j = qn := by omega
              have hE := HE.out
              rw [Nat.sub_self] at hE
              have hRF : R = st.flatMap bytes4 := by rw [HR2.out, hE]; rfl
              have hRl : R.length = 32 := by rw [hRF, flat4_len, Hst.out]
              have hfg : ∀ k, k < 32 → R.getD k 0 = st.getD (k / 4) 0 / 2 ^ (24 - 8 * (k % 4)) % 256 := fun k hk => by
                rw [hRF]
                have h := flat_get st (k / 4) (k % 4) (by rw [Hst.out]; omega) (by omega)
                rwa [show 4 * (k / 4) + k % 4 = k by omega] at h
              have HFG := Lib.hid hfg
              have HRL := Lib.hid hRl
              clear hRF hRl hfg hE HE HR2 hsep hnil hrd HPX HPL
              go_wp2_with fail
              have hO : Blk (wr.alloc (.cells (u8s (List.replicate 32 0)) 112)) wr.heap.size 112 (u8s (outS R 0)) := Blk.new wr _ _
              have hG9 := hG.alloc (.cells (u8s (List.replicate 32 0)) 112)
              have hZ9 := hZ.alloc (.cells (u8s (List.replicate 32 0)) 112)
              have hb9 : Below w.heap.size w (wr.alloc (.cells (u8s (List.replicate 32 0)) 112)) := ((Keeps.of_below (S := []) hb).alloc _).below
              have hgs : w.heap.size + 1 < wr.heap.size := hG.lt
              clear hG hZ hb
              generalize wr.heap.size = gs at *
              go_loopw [9] (fun i wr => ∃ k : Nat, k ≤ 32 ∧ i = .int .i64 k ∧ Blk wr gs 112 (u8s (outS R k)) ∧ Blk wr (w.heap.size + 1) 98 (u32s st) ∧ Blk wr w.heap.size 112 (u8s (List.replicate 32 0)) ∧ Below w.heap.size w wr) (fun i _ => 32 - (intOf i).toNat)
              case atStart => exact ⟨0, by omega, rfl, hO, hG9, hZ9, hb9⟩
              case round =>
                clear hO hG9 hZ9 hb9
                obtain ⟨k, hk, rfl, hO, hG, hZ, hb⟩ := hrel
                by_cases hk32 : k < 32
                · have hset := hO.set k (.int .u8 ((R.getD k 0 : Nat) : Int))
                  rw [outS_set HRL.out hk32, HFG.out k hk32] at hset
                  have hc0 : wr.cell? ⟨gs, k, none⟩ = some (.int .u8 (((outS R k).getD k 0 : Nat) : Int)) := by rw [hO.cell, u8s_get (by rw [outS_len HRL.out (by omega)]; omega)]
                  have hf0 := hO.frozen k
                  have hc1 : wr.cell? ⟨w.heap.size + 1, k / 4, none⟩ = some (.int .u32 ((st.getD (k / 4) 0 : Nat) : Int)) := by rw [hG.cell, u32s_get (by rw [Hst.out]; omega)]
                  have hq : (k : Int) / 4 = ((k / 4 : Nat) : Int) := by omega
                  have hm : (k : Int) % 4 = ((k % 4 : Nat) : Int) := by omega
                  have q8 : k / 4 < 8 := by omega
                  have m4 : k % 4 < 4 := by omega
                  have HS := Lib.hid hset
                  clear hset
                  generalize (outS R k).getD k 0 = y at *
                  generalize k / 4 = q at *
                  generalize k % 4 = m at *
                  generalize st.getD q 0 = xv at *
                  have q8i : (q : Int) < 8 := by omega
                  have i0 : (0 : Int) ≤ 24 - 8 * (m : Int) := by omega
                  have i1 : 24 - 8 * (m : Int) ≤ 32 := by omega
                  have i2 : 8 * (m : Int) ≤ 24 := by omega
                  have i3 : (k : Int) < 32 := by omega
                  go_wp2_with fail
                  have hcast : (xv : Int) / 2 ^ (24 - 8 * m) % 256 = ((xv / 2 ^ (24 - 8 * m) % 256 : Nat) : Int) := by rw [Int.natCast_emod, Int.natCast_ediv, Int.natCast_pow]; rfl
                  exact ⟨⟨k + 1, by omega, by go_num, by rw [hcast]; exact HS.out, hG.far (p := ⟨gs, k, none⟩) (by simp; omega) _, hZ.far (p := ⟨gs, k, none⟩) (by simp; omega) _, hb.setCell (p := ⟨gs, k, none⟩) (by simp; omega) _⟩, by simp [intOf]; omega⟩
                · obtain rfl : k = 32 := by omega
                  rw [outS_all HRL.out] at hO
                  have HI2 := Lib.hid (info47.trans (congrArg some ((u8s_size R).trans HRL.out).symm))
                  have HS2 : Hid ((u8s R).size = (u8s (List.replicate 32 0)).size) := by unfold Hid; rw [u8s_size, u8s_size, HRL.out]; rfl
                  have H1 := Lib.hid (u8s_one R)
                  go_wp2_with (first
                    | (refine wpList_load_blk rfl 112 (.tmp 8) rfl gs rfl 112 (u8s R) _ hO Tryd.underlying112 rfl HI2.out ?_)
                    | (refine wpList_store_blk rfl 112 (.tmp 2) (.tmp 71) rfl w.heap.size 112 _ (u8s R) rfl rfl hZ HS2.out HI2.out H1.out ?_; intro w' hB' hk'))
                  refine post_blk rfl rfl w.heap.size 112 (u8s R) _ rfl hB' Tryd.underlying112 rfl HI2.out ⟨rfl, ?_⟩
                  exact ((Keeps.of_below (S := []) hb).trans' hk' (by simp)).below
end Go.Proofs.YtgmeagkolahkoaaDoor

/- Layer 14 by types: PutSum, Level. -/
namespace Go.Proofs.YtgmeagkolahkoaaDoor
open Go.RowKit

/-- How often a number may be halved, at most f times. -/
def halves : Nat → Nat → Nat
  | 0, _ => 0
  | f + 1, x => if x % 2 = 0 then 1 + halves f (x / 2) else 0
theorem halves_le : ∀ f x, halves f x ≤ f
  | 0, _ => Nat.le_refl _
  | f + 1, x => by
    have := halves_le f (x / 2)
    unfold halves
    split <;> omega
theorem ctz_halves : ∀ (g f x : Nat), g ≤ f → 0 < x → min (Lib.ctzFrom f x) g = halves g x
  | 0, f, x, _, _ => by simp [halves]
  | g + 1, 0, x, h, _ => by omega
  | g + 1, f + 1, x, h, h0 => by
    unfold Lib.ctzFrom halves
    by_cases h2 : x % 2 = 1
    · rw [if_pos h2, if_neg (by omega)]; omega
    · rw [if_neg h2, if_pos (by omega)]
      have := ctz_halves g f (x / 2) (by omega) (by omega)
      omega
theorem halves_zero : ∀ g, halves g 0 = g
  | 0 => rfl
  | g + 1 => by
    unfold halves
    rw [if_pos (by rfl), show 0 / 2 = 0 from rfl, halves_zero g]
    omega
theorem ctz_nine (x : Nat) : min (Lib.ctz 64 x) 9 = halves 9 x := by
  by_cases h : x = 0
  · subst h; rw [halves_zero]; rfl
  · have e : Lib.ctz 64 x = Lib.ctzFrom 64 x := by simp [Lib.ctz, h]
    rw [e]
    exact ctz_halves 9 64 x (by omega) (by omega)
/-- A sum's level. -/
def levelS (x : Sm) : Nat := halves 9 (wordF (shaS (76 :: x.l)).l 3 8)
theorem word_lt (x : Sm) (i : Nat) : wordF x.l i 8 < 18446744073709551616 := Nat.lt_of_lt_of_le (wordF_lt x.l i (sm_getD x) 8) (by decide)

set_option maxRecDepth 100000 in
theorem level_ret (x : Sm) (w : World) (hT : TabOk w) : Ret Tryd.prog 22 #[.agg (u8s x.l)] w (Ty.ex (.int .i64 (levelS x : Nat))) := by
  have hO := sumOf2_ty (e := 64) (τ := Ty.sl 5 1 [bv 76]) (σ := Ty.sl 25 32 x.enc) [76] x.l (reads_sl _ _ _) (by rw [x.len]; exact reads_sl _ _ _) (by simp) x.lt (by rw [x.len]; decide)
  have hl : levelS x = min (Lib.ctz 64 (wordF (shaS (76 :: x.l)).l 3 8)) 9 := (ctz_nine _).symm
  rw [hl]
  have hY : shaL ([76] ++ x.l) = (shaS (76 :: x.l)).l := rfl
  rw [hY] at hO
  generalize shaS (76 :: x.l) = Y at *
  clear hY hl
  have hW := sword_ty Y 3 (by decide)
  have hWl := word_lt Y 3
  generalize wordF Y.l 3 8 = V at *
  have heT : Enters Tryd.prog 40 := fun args w => by kernel_rfl
  refine enter_ty 12 [Ty.ex (.agg (u8s x.l))] Tryd.func22 rfl (by kernel_rfl) ⟨rfl, trivial⟩ fun a hF => ?_
  have hB := Below.refl w.heap.size w
  repeat with_reducible first | refine wp_seq ?_ | refine nThen ?_ | refine wp_ret ?_
  refine' reg_all hF ?_ mixed (by kernel_rfl) ?_
  rotate_left
  · repeat (first
        | exact Line.nil
        | ((refine' Line.cons rfl (.run rfl rfl ?_) ?_)
           any_goals (first | exact cAssign rfl rfl | exact cBoxSum rfl rfl)
           rotate_left))
  intro a w1 hF hb hN
  have hBs := hB.size
  replace hB := hB.trans (hb.mono hB.size)
  dsimp only [ext, Option.getD] at hF
  repeat with_reducible first | refine wp_seq ?_ | refine nThen ?_ | refine wp_ret ?_
  refine' region_ty 5 mixed (by kernel_rfl) hF ?_ ?_
  rotate_left
  · simp only [List.take_succ_cons, List.take_zero]
    repeat (first
        | exact Line.nil
        | (refine' Line.cons rfl (.new rfl rfl (run_alloc_i infoS) rfl) ?_; rotate_left)
        | ((refine' Line.cons rfl (.run rfl rfl ?_) ?_)
           any_goals (first | exact cAssign rfl rfl | exact cBuildV (vs := [.int .u8 76]) rfl (parts1v rfl rfl) Tryd.underlying64 infoU8 rfl (by simp [Value.cells]) (by decide) (by simp [maxLen]) | exact cSliceArr rfl (.t rfl) Tryd.underlying25 sizeU (by simp [maxLen]) | exact cBuildT (τs := [Ty.sl 5 1 [bv 76], Ty.sl 25 32 x.enc]) rfl (partsT2 rfl (.t rfl) (.t rfl) (Ty.sl_isSl _ _ _) (Ty.sl_isSl _ _ _)) Tryd.underlying95 infoB rfl | exact cCall1 rfl rfl hO)
           rotate_left))
  intro a w2 hF hb hN
  have hBs := hB.size
  replace hB := hB.trans (hb.mono hB.size)
  simp only [List.take_succ_cons, List.take_zero, List.drop_succ_cons, List.drop_zero] at hF hN ⊢
  dsimp only [ext, Option.getD] at hF
  obtain ⟨z, ⟨gx, rfl, hgx, hbx⟩, hF⟩ := hF.open (s := 3) rfl
  have hgx : w1.heap.size ≤ gx := hgx
  have hw1 : w.heap.size ≤ w1.heap.size := hBs
  refine tlStoreV (Δ := [(3, Ty.ex (.pointer (some ⟨gx, 0, none⟩)))]) hF rfl rfl rfl rfl (hF.getEx (s := 7) rfl) hbx (by show (u8s _).size = (u8s _).size; rw [u8s_size, u8s_size, Sm.len]; rfl) (by show _ = some (u8s _).size; rw [u8s_size, Sm.len]; exact sizeS) (u8s_one _) (hF.keep [3]) rfl ?_
  intro w3 hF hbx hkx
  refine wpList_nil ?_
  repeat with_reducible first | refine wp_seq ?_ | refine nThen ?_ | refine wp_ret ?_
  replace hB := below_own hB hkx (by intro y hy; simp only [List.mem_singleton] at hy; omega)
  have hax : (Ty.at_ 25 Y.enc).p w3 (.pointer (some ⟨gx, 0, none⟩)) := by
    have h := blk_at hbx
    rwa [show (Value.agg (u8s Y.l)).cells.toList = Y.enc from u8s_list _] at h
  have hT3 := hT.below hB
  refine' reg_all hF ?_ mixed (by kernel_rfl) ?_
  rotate_left
  · repeat (first
        | exact Line.nil
        | ((refine' Line.cons rfl (.run rfl rfl ?_) ?_)
           any_goals (first | exact cAssign rfl rfl | exact cLoadSum rfl (.l rfl hax) Tryd.underlying25 sizeS | exact cCall2 rfl rfl rfl hW | exact cCallX1 (f := 40) (v := .int .u64 (V : Int)) rfl rfl heT (fun W hb => tz_ret V hWl W (hT3.below hb)) | exact cMinI rfl rfl)
           rotate_left))
  intro a w4 hF hb hN
  have hBs := hB.size
  replace hB := hB.trans (hb.mono hB.size)
  dsimp only [ext, Option.getD] at hF
  repeat with_reducible first | refine wp_seq ?_ | refine nThen ?_ | refine wp_ret ?_
  refine ret1 hF rfl rfl fun z hz => ?_
  refine ⟨z, rfl, ?_, hB⟩
  have hz : z = .int .i64 (min ((Lib.ctz 64 V : Nat) : Int) 9) := hz
  rw [hz]
  show _ = _
  congr 1
  omega
end Go.Proofs.YtgmeagkolahkoaaDoor

/- Layer 14 by types: PutSum, the document's Level. -/
namespace Go.Proofs.YtgmeagkolahkoaaDoor
open Go.RowKit

theorem r1of_ty (l : List Nat) (τ : Ty) (hτ : Reads τ l.length (l.map bv)) (hx : ∀ x ∈ l, x < 256) (hn : l.length ≤ 1099511627776) : Fn1 Tryd.prog 101 τ (Ty.ex (.agg (u8s (shaS l).l))) :=
  ⟨fun args w => by kernel_rfl, fun w v hv => by
    obtain ⟨A, c, rfl, hm, hA, hr⟩ := hτ w v hv
    exact Ret.of (R1Of_any A l.length c l w rfl hr hA hx hn)⟩
theorem enc_take (x : Sm) {k : Nat} (h : k < 32) : x.enc.take k ++ [bv (x.l.getD k 0)] = x.enc.take (k + 1) := by
  have hl : k < x.enc.length := by rw [enc_len]; exact h
  have hl2 : k < x.l.length := by rw [x.len]; exact h
  rw [List.take_succ_eq_append_getElem hl]
  congr 1
  simp [Sm.enc, List.getD, List.getElem?_eq_getElem hl2]
set_option maxRecDepth 100000 in
set_option maxHeartbeats 1000000 in
theorem putsum_any (x : Sm) (v : Value) (n : Nat) (xs : List Value) (S : List Nat) (w : World) (h0 : Seg w 5 1 v n xs S) (hn : n ≤ 1000) :
    Calls Tryd.prog 102 #[v, .agg (u8s x.l)] w fun e w' => ∃ v', e = .returned v' ∧ (∃ S', Seg w' 5 1 v' (n + 32) (xs ++ x.enc) S' ∧ ∀ y ∈ S', y ∈ S ∨ w.heap.size ≤ y) ∧ Keeps S w w' := by
  refine enter_ty 17 [Ty.ex v, Ty.ex (.agg (u8s x.l))] Tryd.func102 rfl (by kernel_rfl) ⟨rfl, rfl, trivial⟩ fun a hF => ?_
  have hB := Below.refl w.heap.size w
  repeat with_reducible refine wp_seq ?_
  refine' reg_all hF ?_ mixed (by kernel_rfl) ?_
  rotate_left
  · repeat (first | exact Line.nil | ((refine' Line.cons rfl (.run rfl rfl ?_) ?_); (any_goals (first | exact cAssign rfl rfl | exact cBoxSum rfl rfl)); rotate_left))
  intro a w1 hF hb hN
  have hBs := hB.size
  replace hB := hB.trans (hb.mono hB.size)
  dsimp only [ext, Option.getD] at hF
  repeat with_reducible first | refine wp_seq ?_ | refine nThen ?_
  refine' reg_all hF ?_ mixed (by kernel_rfl) ?_
  rotate_left
  · repeat (first | exact Line.nil | ((refine' Line.cons rfl (.run rfl rfl ?_) ?_); (any_goals exact cAssign rfl rfl); rotate_left))
  intro a w2 hF hb hN
  have hBs := hB.size
  replace hB := hB.trans (hb.mono hB.size)
  dsimp only [ext, Option.getD] at hF
  repeat with_reducible first | refine nThen ?_ | refine wp_block ?_
  refine loop_ty (fun m a wr => ∃ (k : Nat) (u : Value) (S' : List Nat), k + m = 32 ∧ Fr 17 [(0, Ty.ex u), (3, Ty.at_ 112 x.enc), (5, Ty.ex (.int .i64 (k : Int)))] a wr ∧ Keeps S w wr ∧ Seg wr 5 1 u (n + k) (xs ++ x.enc.take k) S' ∧ ∀ y ∈ S', y ∈ S ∨ w.heap.size ≤ y) 32 ?_ ?_
  · refine ⟨0, v, S, by omega, hF.keep [0, 3, 5], Keeps.of_below hB, ?_, fun y hy => .inl hy⟩
    simpa using h0.below hB
  clear hF hB
  rintro m a wr ⟨k, u, S', hk, hF, hK, hseg, hS⟩
  have hB := Below.refl wr.heap.size wr
  repeat with_reducible refine wp_seq ?_
  refine' reg_all hF ?_ mixed (by kernel_rfl) ?_
  rotate_left
  · repeat (first | exact Line.nil | ((refine' Line.cons rfl (.run rfl rfl ?_) ?_); (any_goals (first | exact cMove rfl rfl | exact cLss rfl rfl rfl)); rotate_left))
  intro a w3 hF hb hN
  have hBs := hB.size
  replace hB := hB.trans (hb.mono hB.size)
  dsimp only [ext, Option.getD] at hF
  repeat with_reducible refine nThen ?_
  replace hseg := hseg.below hb
  refine cond_ty hF rfl (fun hlt => ?_) (fun hge => ?_)
  · have hlt : k < 32 := by have := of_decide_eq_true hlt; omega
    have hdr := enc_drop (x := x) hlt
    have htk := enc_take x hlt
    generalize x.l.getD k 0 = B at *
    repeat with_reducible first | refine wp_seq ?_ | refine nThen ?_ | refine wp_skip ?_ | refine wp_block ?_
    refine' region_ty 5 mixed (by kernel_rfl) hF ?_ ?_
    rotate_left
    · simp only [List.take_succ_cons, List.take_zero]
      repeat (first | exact Line.nil | ((refine' Line.cons rfl (.run rfl rfl ?_) ?_); (any_goals (first | exact cMove rfl rfl | exact cIndexArr (k := k) rfl (.t rfl) rfl Tryd.underlying112 sizeU hlt | exact cLoad1 (u := bv B) rfl (Has.c (.t rfl) (fun W v h => hdr ▸ h)) (pts_at _ _) Tryd.underlying5 rfl | exact cBuildV (vs := [bv B]) rfl (parts1v rfl rfl) Tryd.underlying64 infoU8 rfl (by simp [Value.cells, bv]) (by decide) (by simp [maxLen]))); rotate_left))
    intro a w4 hF hb hN
    have hBs := hB.size
    replace hB := hB.trans (hb.mono hB.size)
    simp only [List.take_succ_cons, List.take_zero, List.drop_succ_cons, List.drop_zero] at hF hN ⊢
    dsimp only [ext, Option.getD] at hF
    replace hseg := hseg.below hb
    refine tlAppend (Δ := [(3, Ty.at_ 112 x.enc), (5, Ty.ex (.int .i64 (k : Int)))]) (n := n + k) (m := 1) (news := [bv B]) hF rfl rfl rfl rfl Tryd.underlying64 infoU8 rfl rfl hseg (.t rfl) sl_news rfl (by simp [bv, Value.oneCell']) (by simp [maxLen]; omega) (by omega) (hF.keep [3, 5]) rfl ?_
    intro a w5 u' S'' hF hseg' hk5 hS''
    have hsz : w.heap.size ≤ w4.heap.size := Nat.le_trans hK.size hB.size
    have hbS : ∀ y ∈ S'', y ∈ S ∨ w.heap.size ≤ y := by
      rcases hS'' with rfl | rfl
      · exact hS
      · intro y hy
        simp only [List.mem_singleton] at hy
        subst hy
        exact .inr hsz
    replace hK := (hK.trans (Keeps.of_below hB)).trans' hk5 hS
    rw [List.append_assoc, htk] at hseg'
    have hB := Below.refl w5.heap.size w5
    refine' tlOp hF rfl rfl rfl ?_ ?_
    rotate_left
    · exact cAssign rfl rfl
    intro a w6 hF hb
    have hBs := hB.size
    replace hB := hB.trans (hb.mono hB.size)
    try (refine wpList_nil ?_)
    repeat with_reducible first | refine nThen ?_ | refine nBlk ?_
    refine' reg_all hF ?_ mixed (by kernel_rfl) ?_
    rotate_left
    · repeat (first | exact Line.nil | ((refine' Line.cons rfl (.run rfl rfl ?_) ?_); (any_goals (first | exact cMove rfl rfl | exact cAssign rfl rfl | exact cAdd (r := ((k + 1 : Nat) : Int)) rfl rfl rfl (by omega))); rotate_left))
    intro a w7 hF hb hN
    have hBs := hB.size
    replace hB := hB.trans (hb.mono hB.size)
    dsimp only [ext, Option.getD] at hF
    repeat with_reducible refine nThen ?_
    exact ⟨m - 1, by omega, k + 1, u', S'', by omega, hF.keep [0, 3, 5], hK.trans (Keeps.of_below hB), hseg'.below hB, hbS⟩
  · have hge : ¬ k < 32 := by have := of_decide_eq_false hge; omega
    obtain rfl : k = 32 := by omega
    repeat with_reducible first | refine wp_seq ?_ | refine nThen ?_ | refine wp_exit ?_ | refine xThen ?_ | refine xHere ?_
    refine' reg_all hF ?_ mixed (by kernel_rfl) ?_
    rotate_left
    · repeat (first | exact Line.nil | ((refine' Line.cons rfl (.run rfl rfl ?_) ?_); (any_goals (first | exact cMove rfl rfl | exact cAssign rfl rfl)); rotate_left))
    intro a w4 hF hb hN
    have hBs := hB.size
    replace hB := hB.trans (hb.mono hB.size)
    dsimp only [ext, Option.getD] at hF
    repeat with_reducible first | refine nThen ?_ | refine wp_ret ?_
    refine ret1 hF rfl rfl fun z hz => ?_
    have hz : z = u := hz
    subst hz
    refine ⟨z, rfl, ⟨S', ?_, hS⟩, hK.trans (Keeps.of_below hB)⟩
    have h := hseg.below hb
    rwa [List.take_of_length_le (by rw [enc_len]; exact Nat.le_refl _)] at h

theorem cBuildB1 {w0 : World} {Γ : Ctx} {o : Oper} {c : Value} (ho : o.op = .buildSlice 64 1 #[(0, .const c)]) (hc : c.cells = #[c]) : OpOk Tryd.prog w0 Γ o (Ty.seg w0 5 1 1 [c]) :=
  .new fun a w hb hs => by
    have hr := run_buildSlice (P := Tryd.prog) (t := 64) 1 [c] Tryd.underlying64 infoU8 rfl (by simp [hc]) (by decide) w
    have h1 : ([c].map fun v => v.cells.toList).flatten.toArray = #[c] := by simp [hc]
    rw [h1] at hr
    refine ⟨.slice (some ⟨w.heap.size, 0, none⟩) 1 1, _, ⟨[w.heap.size], Seg.ofBlk (Blk.new w 5 #[c]) rfl (by simp [maxLen]), by simpa using hb.size⟩, ((Keeps.refl [] w).alloc _).below, ?_⟩
    unfold execOp
    simp only [ho]
    rw [show ((#[(0, (.const c : Operand))] : Array (Nat × Operand)).map fun (i, x) => (i, a.eval x)) = (([c]).zipIdx.map fun p => (p.2, p.1)).toArray by simp [Act.eval], Sem.run_bind, hr]
    rfl
theorem cRemU {P : Program} {w0 : World} {Γ : Ctx} {o : Oper} {t t2 : TypeId} {x y : Operand} {k : IntKind} {m n r : Nat} (ho : o.op = .binOp .rem t x y t2) (hx : OpT Γ x (Ty.ex (.int k (m : Int)))) (hy : OpT Γ y (Ty.ex (.int k (n : Int)))) (hn : 0 < n) (hr : m % n = r) : OpOk P w0 Γ o (Ty.ex (.int k (r : Int))) := by
  have h := cRem (P := P) (w0 := w0) ho hx hy (by omega)
  rwa [← Int.ofNat_tmod, hr] at h
end Go.Proofs.YtgmeagkolahkoaaDoor

/- Layer 14 by types: place.Of. -/
namespace Go.Proofs.YtgmeagkolahkoaaDoor
open Go.RowKit

def leB (s : Nat) : Nat → List Nat
  | 0 => []
  | k + 1 => leB s k ++ [s / 256 ^ k % 256]
theorem leB_len (s : Nat) : ∀ k, (leB s k).length = k
  | 0 => rfl
  | k + 1 => by rw [leB, List.length_append, leB_len s k]; rfl
theorem leB_lt (s : Nat) : ∀ k, ∀ x ∈ leB s k, x < 256
  | 0, x, h => by simp [leB] at h
  | k + 1, x, h => by
    rw [leB, List.mem_append] at h
    rcases h with h | h
    · exact leB_lt s k x h
    · simp at h; omega
def ivn (k : Nat) : Value := .int .i64 (k : Int)
def plc (s : Sm) (p : Nat) : Nat → List Nat
  | 0 => []
  | k + 1 => plc s p k ++ [k * p + wordF s.l k 8 % p]
theorem plc_len (s : Sm) (p : Nat) : ∀ k, (plc s p k).length = k
  | 0 => rfl
  | k + 1 => by rw [plc, List.length_append, plc_len s p k]; rfl
def placeS (seed : Nat) (x : Sm) : Sm := shaS ((80 :: leB seed 8) ++ x.l)
def placesN (seed : Nat) (n : Int) (x : Sm) : List Nat := if goodN n then plc (placeS seed x) (n.toNat / 3) 3 else []
theorem infoInt : (Tryd.prog.info? 3).map (fun i => (i.zero, i.size, i.bytes)) = some (some (.int .i64 0), 1, 8) := by kernel_rfl
theorem cQuoI {P : Program} {w0 : World} {Γ : Ctx} {o : Oper} {t t2 : TypeId} {x y : Operand} {m n r : Nat} (ho : o.op = .binOp .quo t x y t2) (hx : OpT Γ x (Ty.ex (.int .i64 (m : Int)))) (hy : OpT Γ y (Ty.ex (.int .i64 (n : Int)))) (hn : 0 < n) (hr : m / n = r) (hb : r ≤ 9223372036854775807) : OpOk P w0 Γ o (Ty.ex (.int .i64 (r : Int))) := by
  have h := cQuoW (P := P) (w0 := w0) ho hx hy (by omega)
  rwa [← Int.ofNat_tdiv, hr, show IntKind.i64.wrap (r : Int) = r from IntWalk.i64_in _ (by omega)] at h
theorem e8 : (2 : Int) ^ (8 : Int).toNat = 256 := by decide
theorem n8 : (0 : Int) ≤ 8 ∧ (8 : Int).toNat ≤ IntKind.u64.bits := by decide
theorem shr8 (Z : Nat) : ((Z : Int)).fdiv (2 ^ (8 : Int).toNat) = ((Z / 256 : Nat) : Int) := by rw [e8, Int.fdiv_eq_ediv_of_nonneg _ (by decide)]; omega

set_option maxRecDepth 100000 in
set_option maxHeartbeats 2000000 in
theorem places_ty (seed : Nat) (n : Int) (x : Sm) (hsd : seed < 18446744073709551616) : Fn3 Tryd.prog 42 (Ty.ex (.int .u64 (seed : Int))) (Ty.ex (.int .i64 n)) (Ty.ex (.agg (u8s x.l))) (Ty.sl 3 (placesN seed n x).length ((placesN seed n x).map ivn)) := by
  refine ⟨fun args w => by kernel_rfl, fun w v u q hv hu hq => ?_⟩
  have hg := good14_ty n
  by_cases hgn : goodN n = true
  rotate_left
  · have hgn : goodN n = false := by simpa using hgn
    have e : placesN seed n x = [] := by unfold placesN; rw [hgn]; rfl
    rw [e]
    rw [hgn] at hg
    refine enter_ty 51 [Ty.ex (.int .u64 (seed : Int)), Ty.ex (.int .i64 n), Ty.ex (.agg (u8s x.l))] Tryd.func42 rfl (by kernel_rfl) ⟨hv, hu, hq, trivial⟩ fun a hF => ?_
    have hB := Below.refl w.heap.size w
    repeat with_reducible refine wp_seq ?_
    refine' reg_all hF ?_ mixed (by kernel_rfl) ?_
    rotate_left
    · repeat (first | exact Line.nil | ((refine' Line.cons rfl (.run rfl rfl ?_) ?_); (any_goals (first | exact cAssign rfl rfl | exact cBoxSum rfl rfl)); rotate_left))
    intro a w1 hF hb hN
    have hBs := hB.size
    replace hB := hB.trans (hb.mono hB.size)
    dsimp only [ext, Option.getD] at hF
    repeat with_reducible first | refine wp_seq ?_ | refine nThen ?_
    refine' reg_all hF ?_ mixed (by kernel_rfl) ?_
    rotate_left
    · repeat (first | exact Line.nil | ((refine' Line.cons rfl (.run rfl rfl ?_) ?_); (any_goals (first | exact cMove rfl rfl | exact cNot rfl rfl | exact cCall1 rfl rfl hg)); rotate_left))
    intro a w2 hF hb hN
    have hBs := hB.size
    replace hB := hB.trans (hb.mono hB.size)
    dsimp only [ext, Option.getD] at hF
    repeat with_reducible refine nThen ?_
    refine cond_t hF rfl ?_
    repeat with_reducible refine wp_seq ?_
    refine' reg_all hF ?_ mixed (by kernel_rfl) ?_
    rotate_left
    · repeat (first | exact Line.nil | ((refine' Line.cons rfl (.run rfl rfl ?_) ?_); (any_goals exact cAssign rfl rfl); rotate_left))
    intro a w3 hF hb hN
    have hBs := hB.size
    replace hB := hB.trans (hb.mono hB.size)
    dsimp only [ext, Option.getD] at hF
    repeat with_reducible first | refine nThen ?_ | refine wp_ret ?_ | refine rThen ?_
    refine ret1 hF rfl rfl fun z hz => ?_
    have hz : z = .slice none 0 0 := hz
    subst hz
    exact ⟨_, rfl, (Seg.nil w3 3 1).sl, hB⟩
  have e : placesN seed n x = plc (placeS seed x) (n.toNat / 3) 3 := by unfold placesN; rw [hgn]; rfl
  rw [e, plc_len]
  have hgd := of_decide_eq_true hgn
  rw [hgn] at hg
  obtain ⟨N, rfl⟩ : ∃ N : Nat, n = (N : Int) := ⟨n.toNat, by omega⟩
  rw [Int.toNat_natCast]
  have hO := sumOf2_ty (e := 64) (τ := Ty.sl 5 9 ((80 :: leB seed 8).map bv)) (σ := Ty.sl 25 32 x.enc) (80 :: leB seed 8) x.l (by rw [show (80 :: leB seed 8).length = 9 by rw [List.length_cons, leB_len]]; exact reads_sl _ _ _) (by rw [x.len]; exact reads_sl _ _ _) (by
    intro y hy
    rcases List.mem_cons.1 hy with rfl | hy
    · decide
    · exact leB_lt seed 8 y hy) x.lt (by rw [x.len, List.length_cons, leB_len]; decide)
  have hY : shaL ((80 :: leB seed 8) ++ x.l) = (placeS seed x).l := rfl
  rw [hY] at hO
  generalize placeS seed x = Y at *
  clear hY e
  refine enter_ty 51 [Ty.ex (.int .u64 (seed : Int)), Ty.ex (.int .i64 (N : Int)), Ty.ex (.agg (u8s x.l))] Tryd.func42 rfl (by kernel_rfl) ⟨hv, hu, hq, trivial⟩ fun a hF => ?_
  have hB := Below.refl w.heap.size w
  repeat with_reducible refine wp_seq ?_
  refine' reg_all hF ?_ mixed (by kernel_rfl) ?_
  rotate_left
  · repeat (first | exact Line.nil | ((refine' Line.cons rfl (.run rfl rfl ?_) ?_); (any_goals (first | exact cAssign rfl rfl | exact cBoxSum rfl rfl)); rotate_left))
  intro a w1 hF hb hN
  have hBs := hB.size
  replace hB := hB.trans (hb.mono hB.size)
  dsimp only [ext, Option.getD] at hF
  repeat with_reducible first | refine wp_seq ?_ | refine nThen ?_
  refine' reg_all hF ?_ mixed (by kernel_rfl) ?_
  rotate_left
  · repeat (first | exact Line.nil | ((refine' Line.cons rfl (.run rfl rfl ?_) ?_); (any_goals (first | exact cMove rfl rfl | exact cNot rfl rfl | exact cCall1 rfl rfl hg)); rotate_left))
  intro a w2 hF hb hN
  have hBs := hB.size
  replace hB := hB.trans (hb.mono hB.size)
  dsimp only [ext, Option.getD] at hF
  repeat with_reducible refine nThen ?_
  refine cond_f hF rfl ?_
  repeat with_reducible first | refine wp_seq ?_ | refine nThen ?_ | refine wp_skip ?_
  refine' reg_all hF ?_ mixed (by kernel_rfl) ?_
  rotate_left
  · repeat (first | exact Line.nil | ((refine' Line.cons rfl (.run rfl rfl ?_) ?_); (any_goals (first | exact cAssign rfl rfl | exact cBuildB1 rfl rfl)); rotate_left))
  intro a w3 hF hb hN
  have hBs := hB.size
  replace hB := hB.trans (hb.mono hB.size)
  dsimp only [ext, Option.getD] at hF
  repeat with_reducible first | refine wp_seq ?_ | refine nThen ?_
  obtain ⟨u7, ⟨S7, hs7, hS7⟩, hF⟩ := hF.open (s := 7) rfl
  refine' reg_all hF ?_ mixed (by kernel_rfl) ?_
  rotate_left
  · repeat (first | exact Line.nil | ((refine' Line.cons rfl (.run rfl rfl ?_) ?_); (any_goals exact cMove rfl rfl); rotate_left))
  intro a w4 hF hb hN
  have hBs := hB.size
  replace hB := hB.trans (hb.mono hB.size)
  dsimp only [ext, Option.getD] at hF
  repeat with_reducible first | refine nThen ?_ | refine wp_block ?_
  refine loop_ty (fun m a wr => ∃ (k : Nat) (u : Value) (S : List Nat), k + m = 8 ∧ Fr 51 [(0, Ty.ex (.int .u64 ((seed / 256 ^ k : Nat) : Int))), (1, Ty.ex (.int .i64 (N : Int))), (5, Ty.at_ 25 x.enc), (7, Ty.ex u), (16, Ty.ex (.int .i64 (k : Int)))] a wr ∧ Below w.heap.size w wr ∧ Seg wr 5 1 u (1 + k) ((80 :: leB seed k).map bv) S ∧ ∀ y ∈ S, w.heap.size ≤ y) 8 ?_ ?_
  · exact ⟨0, u7, S7, by omega, by rw [Nat.pow_zero, Nat.div_one]; exact hF.keep [0, 1, 5, 7, 16], hB, hs7.below hb, fun y hy => by have := hS7 y hy; omega⟩
  clear hF hB
  rintro m a wr ⟨k, u, S, hk, hF, hB, hseg, hS⟩
  repeat with_reducible refine wp_seq ?_
  refine' reg_all hF ?_ mixed (by kernel_rfl) ?_
  rotate_left
  · repeat (first | exact Line.nil | ((refine' Line.cons rfl (.run rfl rfl ?_) ?_); (any_goals exact cLss rfl rfl rfl); rotate_left))
  intro a w5 hF hb hN
  have hBs := hB.size
  replace hB := hB.trans (hb.mono hB.size)
  dsimp only [ext, Option.getD] at hF
  repeat with_reducible first | refine wp_seq ?_ | refine nThen ?_
  replace hseg := hseg.below hb
  refine cond_ty hF rfl (fun hlt => ?_) (fun hge => ?_)
  · have hlt : k < 8 := by have := of_decide_eq_true hlt; omega
    have hnx : (80 :: leB seed k).map bv ++ [bv (seed / 256 ^ k % 256)] = (80 :: leB seed (k + 1)).map bv := by rw [leB]; simp
    have hdv : seed / 256 ^ k / 256 = seed / 256 ^ (k + 1) := by rw [Nat.div_div_eq_div_mul, Nat.pow_succ]
    have hZl : seed / 256 ^ k < 18446744073709551616 := Nat.lt_of_le_of_lt (Nat.div_le_self _ _) hsd
    generalize seed / 256 ^ k = Z at *
    generalize hZ2 : seed / 256 ^ (k + 1) = Z2 at *
    repeat with_reducible first | refine wp_seq ?_ | refine nThen ?_ | refine wp_skip ?_ | refine wp_block ?_
    refine' region_ty 4 mixed (by kernel_rfl) hF ?_ ?_
    rotate_left
    · simp only [List.take_succ_cons, List.take_zero]
      repeat (first | exact Line.nil | ((refine' Line.cons rfl (.run rfl rfl ?_) ?_); (any_goals (first | exact cMove rfl rfl | exact cConvR (r := ((Z % 256 : Nat) : Int)) rfl rfl Tryd.underlying22 Tryd.underlying5 (by simp [IntKind.wrap, IntKind.bits, IntKind.signed]) | exact cBuildV (vs := [bv (Z % 256)]) rfl (parts1v rfl rfl) Tryd.underlying64 infoU8 rfl (by simp [Value.cells, bv]) (by decide) (by simp [maxLen]))); rotate_left))
    intro a w6 hF hb hN
    have hBs := hB.size
    replace hB := hB.trans (hb.mono hB.size)
    simp only [List.take_succ_cons, List.take_zero, List.drop_succ_cons, List.drop_zero] at hF hN ⊢
    dsimp only [ext, Option.getD] at hF
    replace hseg := hseg.below hb
    refine tlAppend (Δ := [(0, Ty.ex (.int .u64 (Z : Int))), (1, Ty.ex (.int .i64 (N : Int))), (5, Ty.at_ 25 x.enc), (16, Ty.ex (.int .i64 (k : Int)))]) (n := 1 + k) (m := 1) (news := [bv (Z % 256)]) hF rfl rfl rfl rfl Tryd.underlying64 infoU8 rfl rfl hseg (.t rfl) sl_news rfl (by simp [bv, Value.oneCell']) (by simp [maxLen]; omega) (by omega) (hF.keep [0, 1, 5, 16]) rfl ?_
    intro a w7 u' S' hF hseg' hk7 hS'
    have hbS : ∀ y ∈ S', w.heap.size ≤ y := own_next hB hS hS'
    replace hB := below_own hB hk7 hS
    rw [hnx] at hseg'
    refine' tlOp hF rfl rfl rfl ?_ ?_
    rotate_left
    · exact cAssign rfl rfl
    intro a w8 hF hb
    have hBs := hB.size
    replace hB := hB.trans (hb.mono hB.size)
    try (refine wpList_nil ?_)
    repeat with_reducible refine nThen ?_
    replace hseg' := hseg'.below hb
    refine' reg_all hF ?_ mixed (by kernel_rfl) ?_
    rotate_left
    · repeat (first | exact Line.nil | ((refine' Line.cons rfl (.run rfl rfl ?_) ?_); (any_goals (first | exact cMove rfl rfl | exact cAssign rfl rfl | exact cShr (r := ((Z / 256 : Nat) : Int)) rfl rfl rfl n8 (shr8 Z))); rotate_left))
    intro a w9 hF hb hN
    have hBs := hB.size
    replace hB := hB.trans (hb.mono hB.size)
    dsimp only [ext, Option.getD] at hF
    repeat with_reducible first | refine nThen ?_ | refine nBlk ?_
    replace hseg' := hseg'.below hb
    refine' reg_all hF ?_ mixed (by kernel_rfl) ?_
    rotate_left
    · repeat (first | exact Line.nil | ((refine' Line.cons rfl (.run rfl rfl ?_) ?_); (any_goals (first | exact cMove rfl rfl | exact cAdd (r := ((k + 1 : Nat) : Int)) rfl rfl rfl (by omega))); rotate_left))
    intro a w10 hF hb hN
    have hBs := hB.size
    replace hB := hB.trans (hb.mono hB.size)
    dsimp only [ext, Option.getD] at hF
    repeat with_reducible refine nThen ?_
    refine ⟨m - 1, by omega, k + 1, u', S', by omega, ?_, hB, hseg'.below hb, hbS⟩
    rw [hZ2, ← hdv]
    exact hF.keep [0, 1, 5, 7, 16]
  have hge : ¬ k < 8 := by have := of_decide_eq_false hge; omega
  obtain rfl : k = 8 := by omega
  have hu5 : (Ty.sl 5 9 ((80 :: leB seed 8).map bv)).p w5 u := hseg.sl
  have hw5 : w.heap.size ≤ w5.heap.size := hB.size
  repeat with_reducible first | refine wp_seq ?_ | refine nThen ?_ | refine wp_exit ?_ | refine xThen ?_ | refine xHere ?_
  refine' region_ty 5 mixed (by kernel_rfl) hF ?_ ?_
  rotate_left
  · simp only [List.take_succ_cons, List.take_zero]
    repeat (first
        | exact Line.nil
        | (refine' Line.cons rfl (.new rfl rfl (run_alloc_i infoS) rfl) ?_; rotate_left)
        | ((refine' Line.cons rfl (.run rfl rfl ?_) ?_)
           any_goals (first | exact cMove rfl rfl | exact cSliceArr rfl (.t rfl) Tryd.underlying25 sizeU (by simp [maxLen]) | exact cBuildT (τs := [Ty.sl 5 9 ((80 :: leB seed 8).map bv), Ty.sl 25 32 x.enc]) rfl (partsT2 rfl (.l rfl hu5) (.t rfl) (Ty.sl_isSl _ _ _) (Ty.sl_isSl _ _ _)) Tryd.underlying95 infoB rfl | exact cCall1 rfl rfl hO)
           rotate_left))
  intro a w6 hF hb hN
  have hBs := hB.size
  replace hB := hB.trans (hb.mono hB.size)
  simp only [List.take_succ_cons, List.take_zero, List.drop_succ_cons, List.drop_zero] at hF hN ⊢
  dsimp only [ext, Option.getD] at hF
  obtain ⟨z, ⟨gx, rfl, hgx, hbx⟩, hF⟩ := hF.open (s := 8) rfl
  have hgx : w5.heap.size ≤ gx := hgx
  refine tlStoreV (Δ := [(1, Ty.ex (.int .i64 (N : Int))), (8, Ty.ex (.pointer (some ⟨gx, 0, none⟩)))]) hF rfl rfl rfl rfl (hF.getEx (s := 29) rfl) hbx (by show (u8s _).size = (u8s _).size; rw [u8s_size, u8s_size, Sm.len]; rfl) (by show _ = some (u8s _).size; rw [u8s_size, Sm.len]; exact sizeS) (u8s_one _) (hF.keep [1, 8]) rfl ?_
  intro w7 hF hbx hkx
  refine wpList_nil ?_
  replace hB := below_own hB hkx (by intro y hy; simp only [List.mem_singleton] at hy; omega)
  have hax : (Ty.at_ 25 Y.enc).p w7 (.pointer (some ⟨gx, 0, none⟩)) := by
    have h := blk_at hbx
    rwa [show (Value.agg (u8s Y.l)).cells.toList = Y.enc from u8s_list _] at h
  replace hF := hF.as hF (s := 8) (σ := Ty.at_ 25 Y.enc) rfl (fun v hv => by have hv : v = .pointer (some ⟨gx, 0, none⟩) := hv; subst hv; exact hax)
  obtain ⟨p, hp⟩ : ∃ p, p = N / 3 := ⟨_, rfl⟩
  have hp1 : 1 ≤ p := by omega
  have hp2 : p ≤ 400 := by omega
  rw [← hp]
  repeat with_reducible first | refine wp_seq ?_ | refine nThen ?_
  refine' reg_all hF ?_ mixed (by kernel_rfl) ?_
  rotate_left
  · repeat (first | exact Line.nil | ((refine' Line.cons rfl (.run rfl rfl ?_) ?_); (any_goals (first | exact cMove rfl rfl | exact cAssign rfl rfl | exact cQuoI (n := 3) (r := p) rfl rfl rfl (by decide) hp.symm (by omega))); rotate_left))
  intro a w8 hF hb hN
  have hBs := hB.size
  replace hB := hB.trans (hb.mono hB.size)
  dsimp only [ext, Option.getD] at hF
  repeat with_reducible first | refine wp_seq ?_ | refine nThen ?_
  refine' reg_all hF ?_ mixed (by kernel_rfl) ?_
  rotate_left
  · repeat (first | exact Line.nil | ((refine' Line.cons rfl (.run rfl rfl ?_) ?_); (any_goals exact cAssign rfl rfl); rotate_left))
  intro a w9 hF hb hN
  have hBs := hB.size
  replace hB := hB.trans (hb.mono hB.size)
  dsimp only [ext, Option.getD] at hF
  repeat with_reducible first | refine wp_seq ?_ | refine nThen ?_
  refine' reg_all hF ?_ mixed (by kernel_rfl) ?_
  rotate_left
  · repeat (first | exact Line.nil | ((refine' Line.cons rfl (.run rfl rfl ?_) ?_); (any_goals exact cMove rfl rfl); rotate_left))
  intro a w10 hF hb hN
  have hBs := hB.size
  replace hB := hB.trans (hb.mono hB.size)
  dsimp only [ext, Option.getD] at hF
  repeat with_reducible first | refine nThen ?_ | refine wp_block ?_
  refine loop_ty (fun m a wr => ∃ (k : Nat) (u : Value) (S : List Nat), k + m = 3 ∧ Fr 51 [(8, Ty.at_ 25 Y.enc), (9, Ty.ex (.int .i64 (p : Int))), (10, Ty.ex u), (32, Ty.ex (.int .i64 (k : Int)))] a wr ∧ Below w.heap.size w wr ∧ Seg wr 3 1 u k ((plc Y p k).map ivn) S ∧ ∀ y ∈ S, w.heap.size ≤ y) 3 ?_ ?_
  · exact ⟨0, _, [], by omega, hF.keep [8, 9, 10, 32], hB, Seg.nil _ _ _, by simp⟩
  clear hF hB
  rintro m a wr ⟨k, u, S, hk, hF, hB, hseg, hS⟩
  repeat with_reducible refine wp_seq ?_
  refine' reg_all hF ?_ mixed (by kernel_rfl) ?_
  rotate_left
  · repeat (first | exact Line.nil | ((refine' Line.cons rfl (.run rfl rfl ?_) ?_); (any_goals exact cLss rfl rfl rfl); rotate_left))
  intro a w11 hF hb hN
  have hBs := hB.size
  replace hB := hB.trans (hb.mono hB.size)
  dsimp only [ext, Option.getD] at hF
  repeat with_reducible first | refine wp_seq ?_ | refine nThen ?_
  replace hseg := hseg.below hb
  refine cond_ty hF rfl (fun hlt => ?_) (fun hge => ?_)
  · have hlt : k < 3 := by have := of_decide_eq_true hlt; omega
    have hW := sword_ty Y k (by omega)
    have hWl := word_lt Y k
    have hnx : (plc Y p k).map ivn ++ [ivn (k * p + wordF Y.l k 8 % p)] = (plc Y p (k + 1)).map ivn := by rw [plc]; simp
    have hm : wordF Y.l k 8 % p < p := Nat.mod_lt _ (by omega)
    have hkp : k * p ≤ 2 * p := Nat.mul_le_mul_right _ (by omega)
    generalize wordF Y.l k 8 = V at *
    generalize hM : V % p = M at *
    repeat with_reducible first | refine wp_seq ?_ | refine nThen ?_ | refine wp_skip ?_ | refine wp_block ?_
    refine' reg_all hF ?_ mixed (by kernel_rfl) ?_
    rotate_left
    · repeat (first | exact Line.nil | ((refine' Line.cons rfl (.run rfl rfl ?_) ?_); (any_goals (first | exact cMove rfl rfl | exact cAssign rfl rfl)); rotate_left))
    intro a w12 hF hb hN
    have hBs := hB.size
    replace hB := hB.trans (hb.mono hB.size)
    dsimp only [ext, Option.getD] at hF
    repeat with_reducible refine nThen ?_
    replace hseg := hseg.below hb
    refine' region_ty 13 mixed (by kernel_rfl) hF ?_ ?_
    rotate_left
    · simp only [List.take_succ_cons, List.take_zero]
      repeat (first | exact Line.nil | ((refine' Line.cons rfl (.run rfl rfl ?_) ?_); (any_goals (first | exact cMove rfl rfl | exact cMul (r := ((k * p : Nat) : Int)) rfl rfl rfl ⟨by rw [Int.natCast_mul], by omega, by omega⟩ | exact cLoadSum rfl (.t rfl) Tryd.underlying25 sizeS | exact cCall2 rfl rfl rfl hW | exact cConvR (r := (p : Int)) rfl rfl Tryd.underlying3 Tryd.underlying22 (by rw [IntKind.wrap_u64]; omega) | exact cRemU (n := p) (r := M) rfl rfl rfl (by omega) hM | exact cConvR (r := (M : Int)) rfl rfl Tryd.underlying22 Tryd.underlying3 (IntWalk.i64_in _ (by omega)) | exact cAdd (r := ((k * p + M : Nat) : Int)) rfl rfl rfl ⟨by rw [Int.natCast_add], by omega, by omega⟩ | exact cBuildV (vs := [ivn (k * p + M)]) rfl (parts1v rfl rfl) Tryd.underlying23 infoInt rfl (by simp [Value.cells, ivn]) (by decide) (by simp [maxLen]))); rotate_left))
    intro a w13 hF hb hN
    have hBs := hB.size
    replace hB := hB.trans (hb.mono hB.size)
    simp only [List.take_succ_cons, List.take_zero, List.drop_succ_cons, List.drop_zero] at hF hN ⊢
    dsimp only [ext, Option.getD] at hF
    replace hseg := hseg.below hb
    refine tlAppend (Δ := [(8, Ty.at_ 25 Y.enc), (9, Ty.ex (.int .i64 (p : Int))), (32, Ty.ex (.int .i64 (k : Int)))]) (n := k) (m := 1) (news := [ivn (k * p + M)]) hF rfl rfl rfl rfl Tryd.underlying23 infoInt rfl rfl hseg (.t rfl) sl_news rfl (by simp [ivn, Value.oneCell']) (by simp [maxLen]; omega) (by omega) (hF.keep [8, 9, 32]) rfl ?_
    intro a w14 u' S' hF hseg' hk14 hS'
    have hbS : ∀ y ∈ S', w.heap.size ≤ y := own_next hB hS hS'
    replace hB := below_own hB hk14 hS
    rw [hnx] at hseg'
    refine' tlOp hF rfl rfl rfl ?_ ?_
    rotate_left
    · exact cAssign rfl rfl
    intro a w15 hF hb
    have hBs := hB.size
    replace hB := hB.trans (hb.mono hB.size)
    try (refine wpList_nil ?_)
    repeat with_reducible first | refine nThen ?_ | refine nBlk ?_
    replace hseg' := hseg'.below hb
    refine' reg_all hF ?_ mixed (by kernel_rfl) ?_
    rotate_left
    · repeat (first | exact Line.nil | ((refine' Line.cons rfl (.run rfl rfl ?_) ?_); (any_goals (first | exact cMove rfl rfl | exact cAdd (r := ((k + 1 : Nat) : Int)) rfl rfl rfl (by omega))); rotate_left))
    intro a w16 hF hb hN
    have hBs := hB.size
    replace hB := hB.trans (hb.mono hB.size)
    dsimp only [ext, Option.getD] at hF
    repeat with_reducible refine nThen ?_
    exact ⟨m - 1, by omega, k + 1, u', S', by omega, hF.keep [8, 9, 10, 32], hB, hseg'.below hb, hbS⟩
  have hge : ¬ k < 3 := by have := of_decide_eq_false hge; omega
  obtain rfl : k = 3 := by omega
  repeat with_reducible first | refine wp_seq ?_ | refine nThen ?_ | refine wp_exit ?_ | refine xThen ?_ | refine xHere ?_
  refine' reg_all hF ?_ mixed (by kernel_rfl) ?_
  rotate_left
  · repeat (first | exact Line.nil | ((refine' Line.cons rfl (.run rfl rfl ?_) ?_); (any_goals (first | exact cMove rfl rfl | exact cAssign rfl rfl)); rotate_left))
  intro a w12 hF hb hN
  have hBs := hB.size
  replace hB := hB.trans (hb.mono hB.size)
  dsimp only [ext, Option.getD] at hF
  repeat with_reducible first | refine nThen ?_ | refine wp_ret ?_
  refine ret1 hF rfl rfl fun z hz => ?_
  have hz : z = u := hz
  subst hz
  exact ⟨z, rfl, (hseg.below hb).sl, hB⟩
end Go.Proofs.YtgmeagkolahkoaaDoor

/- Cells and tables, plainly: sums put in and taken out in whatever order; one less another. -/
namespace Go.Proofs.YtgmeagkolahkoaaDoor
open Go.RowKit

/-- A cell. -/
structure Cl where
  n : Int
  key : Sm
  check : Sm
  deriving DecidableEq
def Cl.enc (c : Cl) : List Value := .int .i64 c.n :: (c.key.enc ++ c.check.enc)
def Cl.a (c : Cl) : Array Value := c.enc.toArray
theorem Cl.enc_len (c : Cl) : c.enc.length = 65 := by simp [Cl.enc, Sm.enc, c.key.len, c.check.len]
theorem Cl.size (c : Cl) : c.a.size = 65 := by simp [Cl.a, c.enc_len]
theorem Cl.one (c : Cl) : c.a.all (·.oneCell') = true := by
  simp [Cl.a, Cl.enc, Sm.enc, Value.oneCell', bv]
def Cl.zero : Cl := ⟨0, Sm.zero, Sm.zero⟩
instance : Inhabited Cl := ⟨Cl.zero⟩
theorem Cl.ext {c d : Cl} (h1 : c.n = d.n) (h2 : c.key = d.key) (h3 : c.check = d.check) : c = d := by
  cases c; cases d; simp only at h1 h2 h3; subst h1 h2 h3; rfl
def chk (x : Sm) : Sm := shaS (67 :: x.l)
def Cl.put (c : Cl) (x : Sm) (n : Int) : Cl := ⟨wrap64 (c.n + n), c.key.xor x, c.check.xor (chk x)⟩
def Cl.minus (c d : Cl) : Cl := ⟨wrap64 (c.n - d.n), c.key.xor d.key, c.check.xor d.check⟩
def Cl.ok (c : Cl) : Bool := (decide (c.n = 1) || decide (c.n = -1)) && decide (c.check = chk c.key)
theorem w64_in {a : Int} (h : -9223372036854775808 ≤ a ∧ a ≤ 9223372036854775807) : wrap64 a = a := by unfold wrap64; omega
theorem minus_self (c : Cl) : c.minus c = Cl.zero := by
  apply Cl.ext
  · show wrap64 (c.n - c.n) = 0
    rw [show c.n - c.n = 0 by omega]; exact w64_in (by omega)
  · exact Sm.xor_self _
  · exact Sm.xor_self _
/-- Rows of cells. -/
def flatC (L : List Cl) : List Value := L.flatMap Cl.enc
theorem flatC_len (L : List Cl) : (flatC L).length = L.length * 65 := by
  unfold flatC
  induction L with
  | nil => rfl
  | cons x L ih => rw [List.flatMap_cons, List.length_append, ih, Cl.enc_len, List.length_cons, Nat.add_mul]; omega
theorem flatC_append (L M : List Cl) : flatC (L ++ M) = flatC L ++ flatC M := List.flatMap_append ..
theorem flatC_one (x : Cl) : flatC [x] = x.enc := by simp [flatC]
theorem flatC_drop (L : List Cl) (k : Nat) : (flatC L).drop (k * 65) = flatC (L.drop k) := by
  induction k generalizing L with
  | zero => simp
  | succ k ih =>
    cases L with
    | nil => simp [flatC]
    | cons x L =>
      rw [List.drop_succ_cons, ← ih]
      unfold flatC
      rw [List.flatMap_cons, show (k + 1) * 65 = x.enc.length + k * 65 by rw [Cl.enc_len]; omega, ← List.drop_drop, List.drop_left]
theorem flatC_take (L : List Cl) (k : Nat) : (flatC L).take (k * 65) = flatC (L.take k) := by
  induction k generalizing L with
  | zero => simp [flatC]
  | succ k ih =>
    cases L with
    | nil => simp [flatC]
    | cons x L =>
      rw [List.take_succ_cons]
      unfold flatC
      rw [List.flatMap_cons, List.flatMap_cons, show (k + 1) * 65 = x.enc.length + k * 65 by rw [Cl.enc_len]; omega, List.take_length_add_append]
      congr 1
      exact ih L
theorem dropC_get (L : List Cl) {k : Nat} (h : k < L.length) : L.drop k = L.getD k default :: L.drop (k + 1) := by
  rw [List.drop_eq_getElem_cons h]
  simp [List.getD, List.getElem?_eq_getElem h]
theorem flatC_at (L : List Cl) {k : Nat} (h : k < L.length) : (flatC L).drop (k * 65) = (L.getD k default).enc ++ flatC (L.drop (k + 1)) := by
  rw [flatC_drop, dropC_get L h]
  rfl
theorem flatC_one' {L : List Cl} : ∀ u ∈ flatC L, u.oneCell' = true := by
  intro u hu
  obtain ⟨x, _, h⟩ := List.mem_flatMap.1 hu
  have := x.one
  simp only [Cl.a, Array.all_eq_true_iff_forall_mem] at this
  exact this u (by simpa using h)
theorem flatC_snoc (L : List Cl) {k : Nat} (h : k < L.length) : flatC (L.take k) ++ (L.getD k default).enc = flatC (L.take (k + 1)) := by
  rw [List.take_succ_eq_append_getElem h, flatC_append, flatC_one]
  simp [List.getD, List.getElem?_eq_getElem h]
theorem over_flatC (D : List Cl) {k : Nat} (x : Cl) (hk : k < D.length) : over (flatC D) (k * 65) x.enc = flatC (D.set k x) := by
  unfold over
  rw [Cl.enc_len, show k * 65 + 65 = (k + 1) * 65 by omega, flatC_take, flatC_drop, List.set_eq_take_append_cons_drop, if_pos hk]
  simp [flatC]

/-! ### Tables -/
def tputAt (L : List Cl) (i : Nat) (x : Sm) (n : Int) : List Cl := L.set i ((L.getD i default).put x n)
/-- x, n times, in its places. -/
def tput (seed : Nat) (L : List Cl) (x : Sm) (n : Int) : List Cl := (placesN seed (L.length : Int) x).foldl (fun L i => tputAt L i x n) L
def tall (seed : Nat) (L : List Cl) (xs : List Sm) (n : Int) : List Cl := xs.foldl (fun L x => tput seed L x n) L
def tminus (L M : List Cl) : List Cl := List.zipWith Cl.minus L M
def tzero (n : Nat) : List Cl := List.replicate n Cl.zero
theorem tputAt_len (L : List Cl) (i : Nat) (x : Sm) (n : Int) : (tputAt L i x n).length = L.length := by simp [tputAt]
theorem foldAt_len (x : Sm) (n : Int) : ∀ (p : List Nat) (L : List Cl), (p.foldl (fun L i => tputAt L i x n) L).length = L.length
  | [], _ => rfl
  | i :: p, L => by rw [List.foldl_cons, foldAt_len x n p, tputAt_len]
theorem tput_len (seed : Nat) (L : List Cl) (x : Sm) (n : Int) : (tput seed L x n).length = L.length := foldAt_len x n _ L
theorem tall_len (seed : Nat) (n : Int) : ∀ (xs : List Sm) (L : List Cl), (tall seed L xs n).length = L.length
  | [], _ => rfl
  | x :: xs, L => by show (tall seed (tput seed L x n) xs n).length = _; rw [tall_len seed n xs, tput_len]
theorem tminus_len {L M : List Cl} (h : L.length = M.length) : (tminus L M).length = L.length := by simp [tminus, h]
theorem getD_set_eq (L : List Cl) {i j : Nat} (v : Cl) (hj : j < L.length) : (L.set i v).getD j default = if i = j then v else L.getD j default := by
  simp only [List.getD, List.getElem?_set]
  by_cases h : i = j
  · subst h; simp [hj]
  · simp [h]
theorem list_extD {L M : List Cl} (hl : L.length = M.length) (h : ∀ j, j < L.length → L.getD j default = M.getD j default) : L = M := by
  apply List.ext_getElem hl
  intro i h1 h2
  have := h i h1
  simpa [List.getD, List.getElem?_eq_getElem h1, List.getElem?_eq_getElem h2] using this
theorem plc_lt (s : Sm) {p : Nat} (hp : 0 < p) : ∀ k, ∀ i ∈ plc s p k, i < k * p
  | 0, i, h => by simp [plc] at h
  | k + 1, i, h => by
    rw [plc, List.mem_append] at h
    rw [Nat.succ_mul]
    rcases h with h | h
    · have := plc_lt s hp k i h; omega
    · simp only [List.mem_singleton] at h
      subst h
      have := Nat.mod_lt (wordF s.l k 8) hp
      omega
theorem places_lt (seed n : Nat) (x : Sm) : ∀ i ∈ placesN seed (n : Int) x, i < n := by
  intro i hi
  unfold placesN at hi
  split at hi
  · rename_i h
    have := of_decide_eq_true h
    have h1 := plc_lt _ (p := (n : Int).toNat / 3) (by omega) 3 i hi
    simp only [Int.toNat_natCast] at h1
    omega
  · simp at hi
/-- x belongs in cell j. -/
def isAt (seed n : Nat) (j : Nat) (x : Sm) : Bool := decide (j ∈ placesN seed (n : Int) x)
theorem tminus_get {L M : List Cl} (h : L.length = M.length) {j : Nat} (hj : j < L.length) : (tminus L M).getD j default = (L.getD j default).minus (M.getD j default) := by
  have hm : j < M.length := by omega
  simp [tminus, List.getD, List.getElem?_zipWith, List.getElem?_eq_getElem hj, List.getElem?_eq_getElem hm]
theorem tzero_len (n : Nat) : (tzero n).length = n := by simp [tzero]
end Go.Proofs.YtgmeagkolahkoaaDoor

/- The walks of Sum.Xor and Sum.Zero. -/
namespace Go.Proofs.YtgmeagkolahkoaaDoor
open Go.RowKit

theorem info32 : (Tryd.prog.info? 25).map (·.size) = some 32 := by kernel_rfl

set_option maxRecDepth 100000 in
set_option maxHeartbeats 1000000 in
theorem Xor_l (x y : List Nat) (hx : x.length = 32) (hy : y.length = 32) (w : World) :
    Calls Tryd.prog 74 #[.agg (u8s x), .agg (u8s y)] w fun e w' => e = .returned (.agg (u8s (xorL x y))) ∧ Below w.heap.size w w' := by
  have X := x8_eq
  have HX := Lib.hid hx
  have HY := Lib.hid hy
  have hR : (u8s (xorL x y)).size = 32 := by rw [u8s_size, xorL_len (by omega), hx]
  have HR := Lib.hid hR
  have HI := Lib.hid (info32.trans (congrArg some hR.symm))
  have H1 := Lib.hid (u8s_one (xorL x y))
  have HM := Lib.hid (mix8_all hx hy)
  clear hx hy hR
  generalize xorL x y = r at *
  go_enter Tryd.func74, Tryd.ntmps74
  go_wp2_with fail
  have h0 : Blk (((w.alloc (.cells (u8s x) 25)).alloc (.cells (u8s y) 25)).alloc (.cells (u8s (List.replicate 32 0)) 25)) w.heap.size 25 (u8s (mix8 x y 0)) := ((Blk.new w _ _).alloc _).alloc _
  have h1 : Blk (((w.alloc (.cells (u8s x) 25)).alloc (.cells (u8s y) 25)).alloc (.cells (u8s (List.replicate 32 0)) 25)) (w.heap.size + 1) 25 (u8s y) := (Blk.newAt (w.alloc _) _ _ _ (by simp)).alloc _
  have h2 : Blk (((w.alloc (.cells (u8s x) 25)).alloc (.cells (u8s y) 25)).alloc (.cells (u8s (List.replicate 32 0)) 25)) (w.heap.size + 1 + 1) 25 (u8s (List.replicate 32 0)) := Blk.newAt ((w.alloc _).alloc _) _ _ _ (by simp)
  have hb : Below w.heap.size w (((w.alloc (.cells (u8s x) 25)).alloc (.cells (u8s y) 25)).alloc (.cells (u8s (List.replicate 32 0)) 25)) := ((((Keeps.refl [] w).alloc _).alloc _).alloc _).below
  go_loopw [6] (fun i wr => ∃ k : Nat, k ≤ 32 ∧ i = .int .i64 k ∧ Blk wr w.heap.size 25 (u8s (mix8 x y k)) ∧ Blk wr (w.heap.size + 1) 25 (u8s y) ∧ Blk wr (w.heap.size + 1 + 1) 25 (u8s (List.replicate 32 0)) ∧ Below w.heap.size w wr) (fun i _ => 32 - (intOf i).toNat)
  case atStart => exact ⟨0, by omega, rfl, h0, h1, h2, hb⟩
  case round =>
    clear h0 h1 h2 hb
    obtain ⟨k, hk, rfl, h0, h1, h2, hb⟩ := hrel
    by_cases hk32 : k < 32
    · have c0 : wr.cell? ⟨w.heap.size, k, none⟩ = some (.int .u8 ((x.getD k 0 : Nat) : Int)) := by rw [h0.cell, u8s_get (by rw [mix8_len HX.out HY.out (by omega)]; exact hk32), mix8_get HX.out HY.out hk32]
      have c1 : wr.cell? ⟨w.heap.size + 1, k, none⟩ = some (.int .u8 ((y.getD k 0 : Nat) : Int)) := by rw [h1.cell, u8s_get (by rw [HY.out]; exact hk32)]
      have f0 := h0.frozen k
      have hS := h0.set k (.int .u8 ((x8 (x.getD k 0) (y.getD k 0) : Nat) : Int))
      rw [mix8_set HX.out HY.out hk32] at hS
      generalize x.getD k 0 = a at *
      generalize y.getD k 0 = b at *
      have r0 : (k : Int) < 32 := by omega
      have r1 : (0 : Int) ≤ (k : Int) := by omega
      go_wp2_with fail
      go_still_tail 8, (by kernel_rfl)
      go_wp2_with fail
      go_roundw
      case rel => exact ⟨k + 1, by omega, by go_num, hS.drew, (h1.far (p := ⟨w.heap.size, k, none⟩) (by simp) _).drew, (h2.far (p := ⟨w.heap.size, k, none⟩) (by simp; omega) _).drew, (hb.setCell (p := ⟨w.heap.size, k, none⟩) (by simp) _).drew⟩
      case measure => simp [intOf]; omega
    · obtain rfl : k = 32 := by omega
      rw [HM.out] at h0
      have HZ : Hid ((u8s r).size = (u8s (List.replicate 32 0)).size) := by unfold Hid; rw [HR.out, u8s_size]; rfl
      go_wp2_with (first
        | (refine wpList_load_blk rfl 25 (.tmp 2) rfl w.heap.size rfl 25 (u8s r) _ h0 Tryd.underlying25 rfl HI.out ?_)
        | (refine wpList_store_blk rfl 25 (.tmp 4) (.tmp 18) rfl (w.heap.size + 1 + 1) 25 _ (u8s r) rfl rfl h2 HZ.out HI.out H1.out ?_; intro w' hB' hk'))
      refine post_blk rfl rfl (w.heap.size + 1 + 1) 25 (u8s r) _ rfl hB' Tryd.underlying25 rfl HI.out ⟨rfl, ?_⟩
      exact ((Keeps.of_below (S := []) hb).trans' hk' (by simp; omega)).below
theorem Xor_any (x y : Sm) (w : World) :
    Calls Tryd.prog 74 #[.agg (u8s x.l), .agg (u8s y.l)] w fun e w' => e = .returned (.agg (u8s (x.xor y).l)) ∧ Below w.heap.size w w' := Xor_l x.l y.l x.len y.len w
end Go.Proofs.YtgmeagkolahkoaaDoor

/- Cells by types: build, fields, ==; the functions of layer 13, the program's and the document's. -/
namespace Go.Proofs.YtgmeagkolahkoaaDoor
open Go.RowKit

/-- A cell's 65 places. -/
def cellA (n : Int) (K C : Array Value) : Array Value := #[.int .i64 n] ++ K ++ C
theorem fold_splice (off : Nat) : ∀ (l : List Value) (j : Nat) (cells : Array Value), (l.zipIdx j).foldl (fun cs (p : Value × Nat) => cs.setIfInBounds (off + p.2) p.1) cells = splice cells (off + j) l
  | [], _, _ => rfl
  | v :: l, j, cells => by
    rw [List.zipIdx_cons, List.foldl_cons, fold_splice off l (j + 1)]
    rfl
theorem fold_arr (off : Nat) (V cells : Array Value) : V.zipIdx.foldl (fun cs (p : Value × Nat) => cs.setIfInBounds (off + p.2) p.1) cells = splice cells off V.toList := by
  rw [← Array.foldl_toList, Array.toList_zipIdx]
  exact fold_splice off V.toList 0 cells
theorem cell_splice {n : Int} {K C Z : Array Value} (hZ : Z.size = 65) (hK : K.size = 32) (hC : C.size = 32) : splice (splice (splice Z 0 [.int .i64 n]) 1 K.toList) 33 C.toList = cellA n K C := by
  apply Array.ext_getElem?
  intro j
  rw [splice_get _ _ _ _ (by rw [splice_size, splice_size]; simp [hZ, hC]), splice_get _ _ _ _ (by rw [splice_size]; simp [hZ, hK]), splice_get _ _ _ _ (by simp [hZ])]
  simp only [Array.length_toList, hK, hC, List.length_singleton]
  unfold cellA
  by_cases h3 : 33 ≤ j
  · rw [Array.getElem?_append_right (by simp [hK]; omega)]
    have e : j - (#[Value.int .i64 n] ++ K).size = j - 33 := by simp [hK]
    rw [e]
    by_cases h4 : j < 65
    · rw [if_pos (by omega)]; simp
    · rw [if_neg (by omega), if_neg (by omega), if_neg (by omega), Array.getElem?_eq_none (by omega), Array.getElem?_eq_none (by omega)]
  · rw [if_neg (by omega), Array.getElem?_append_left (by simp [hK]; omega)]
    by_cases h2 : 1 ≤ j
    · rw [if_pos (by omega), Array.getElem?_append_right (by simp; omega)]; simp
    · obtain rfl : j = 0 := by omega
      rw [if_neg (by omega), if_pos (by omega)]
      rw [Array.getElem?_append_left (by simp)]
      simp
theorem fill_step {place : Nat → Option (Nat × Nat)} {cells : Array Value} {i off size : Nat} {v : Value} {rest : List (Nat × Value)} (hp : place i = some (off, size)) (hs : v.cells.size = size) (hb : off + size ≤ cells.size) :
    Instr.fill place cells ((i, v) :: rest) = Instr.fill place (splice cells off v.cells.toList) rest := by
  rw [Instr.fill]
  simp only [hp]
  rw [if_neg (by rw [hs]; simp; omega), fold_arr]
theorem fill_cell {Z K C : Array Value} {n : Int} (hZ : Z.size = 65) (hK : K.size = 32) (hC : C.size = 32) :
    Instr.fill (fun x => ([(0, 1), (1, 32), (33, 32)] : List (Nat × Nat))[x]?) Z [(0, .int .i64 n), (1, .agg K), (2, .agg C)] = some (cellA n K C) := by
  rw [fill_step (v := .int .i64 n) (off := 0) (size := 1) rfl rfl (by rw [hZ]; omega), fill_step (v := .agg K) (off := 1) (size := 32) rfl hK (by rw [splice_size, hZ]; omega), fill_step (v := .agg C) (off := 33) (size := 32) rfl hC (by rw [splice_size, splice_size, hZ]; omega)]
  rw [show (Value.int .i64 n).cells.toList = [.int .i64 n] from rfl, show (Value.agg K).cells = K from rfl, show (Value.agg C).cells = C from rfl, cell_splice hZ hK hC]
  rfl
def zero65 : Array Value := cellA 0 (u8s (List.replicate 32 0)) (u8s (List.replicate 32 0))
theorem zero65_size : zero65.size = 65 := rfl
theorem extract_key {n : Int} {K C : Array Value} (hK : K.size = 32) (hC : C.size = 32) : (cellA n K C).extract 1 (1 + 32) = K := by
  apply Array.ext_getElem?
  intro j
  unfold cellA
  by_cases h : j < 32
  · rw [Array.getElem?_extract, if_pos (by simp [hK, hC]; omega), Array.getElem?_append_left (by simp [hK]; omega), Array.getElem?_append_right (by simp)]
    simp
  · rw [Array.getElem?_eq_none (by simp [hK]; omega), Array.getElem?_eq_none (by omega)]
theorem extract_check {n : Int} {K C : Array Value} (hK : K.size = 32) (hC : C.size = 32) : (cellA n K C).extract 33 (33 + 32) = C := by
  apply Array.ext_getElem?
  intro j
  unfold cellA
  by_cases h : j < 32
  · rw [Array.getElem?_extract, if_pos (by simp [hK, hC]; try omega), Array.getElem?_append_right (by simp [hK]; try omega)]
    congr 1
    simp [hK]
    try omega
  · rw [Array.getElem?_eq_none (by simp [hK, hC]; try omega), Array.getElem?_eq_none (by omega)]
theorem cellA_get0 {n : Int} {K C : Array Value} : (cellA n K C)[0]? = some (.int .i64 n) := by
  unfold cellA; rw [Array.getElem?_append_left (by simp; omega), Array.getElem?_append_left (by simp)]; rfl
theorem cl_cellA (c : Cl) : c.a = cellA c.n (u8s c.key.l) (u8s c.check.l) := by simp [Cl.a, Cl.enc, cellA, u8s, Sm.enc]
theorem Sm.size (s : Sm) : (u8s s.l).size = 32 := by rw [u8s_size, s.len]
theorem Cl.eq_iff (c d : Cl) : (c.n = d.n ∧ c.key = d.key ∧ c.check = d.check) ↔ c = d := ⟨fun h => Cl.ext h.1 h.2.1 h.2.2, fun h => by subst h; exact ⟨rfl, rfl, rfl⟩⟩
theorem zero65_is : zero65 = Cl.zero.a := by rw [cl_cellA]; rfl
theorem info34 : (Tryd.prog.info? 27).map (·.size) = some 65 := by kernel_rfl
theorem zero34 (w : World) : (zeroValue 27).run Tryd.prog w = .ok (.agg zero65) w := by kernel_rfl
theorem build_cell34 (n : Int) (K C : Array Value) (hK : K.size = 32) (hC : C.size = 32) (w : World) : (Instr.build 27 #[(0, .int .i64 n), (1, .agg K), (2, .agg C)]).run Tryd.prog w = .ok (.agg (cellA n K C)) w := by
  have hu := run_underlying Tryd.underlying27 w
  have h1 := Tryd.sizeOf2 w
  have hf : Instr.fill (fun x => ([(0, 1), (1, 32), (33, 32)] : List (Nat × Nat))[x]?) (Value.agg zero65).cells [(0, .int .i64 n), (1, .agg K), (2, .agg C)] = some (cellA n K C) := fill_cell zero65_size hK hC
  simp only [Instr.build, Sem.run_bind, zero34 w, Result.andThen_ok, hu]
  simp [h1, hf]
theorem build_zero34 (w : World) : (Instr.build 27 #[]).run Tryd.prog w = .ok (.agg zero65) w := by
  have hu := run_underlying Tryd.underlying27 w
  have h1 := Tryd.sizeOf2 w
  simp only [Instr.build, Sem.run_bind, zero34 w, Result.andThen_ok, hu]
  simp [h1, Instr.fill]
  rfl
theorem fields34 : ∃ f0 f1 f2 : Field, (Tryd.prog.fieldsOf 27).toList = [f0, f1, f2] ∧ f0.name ≠ "_" ∧ f1.name ≠ "_" ∧ f2.name ≠ "_" ∧ f0.type = 2 ∧ f0.offset = 0 ∧ f1.type = 25 ∧ f1.offset = 1 ∧ f2.type = 25 ∧ f2.offset = 33 := by
  have hu := Tryd.underlying27
  have h : ∀ fs, Tryd.prog.underlying 27 = some (.struct fs) → Tryd.prog.fieldsOf 27 = fs := fun fs h => by unfold Program.fieldsOf; rw [h]
  have h2 := h _ hu
  rw [h2]
  exact ⟨_, _, _, rfl, by decide, by decide, by decide, rfl, rfl, rfl, rfl, rfl, rfl⟩
theorem holds34 : Tryd.prog.underlying 27 = some (.struct (Tryd.prog.fieldsOf 27)) ∧ Tryd.prog.stoodInHeld 27 = false := ⟨by kernel_rfl, by kernel_rfl⟩
theorem part_key34 (c : Cl) (w : World) : (part 25 c.a 1).run Tryd.prog w = .ok (.agg (u8s c.key.l)) w := by
  have a1 : (isAgg 25).run Tryd.prog w = .ok true w := by kernel_rfl
  unfold part
  rw [Sem.run_bind, a1]
  simp only [Result.andThen_ok, if_true, Sem.run_bind, Tryd.sizeOf25 w, Sem.run_pure]
  rw [show c.a.extract 1 (1 + 32) = u8s c.key.l by rw [cl_cellA]; exact extract_key c.key.size c.check.size]
theorem part_check34 (c : Cl) (w : World) : (part 25 c.a 33).run Tryd.prog w = .ok (.agg (u8s c.check.l)) w := by
  have a1 : (isAgg 25).run Tryd.prog w = .ok true w := by kernel_rfl
  unfold part
  rw [Sem.run_bind, a1]
  simp only [Result.andThen_ok, if_true, Sem.run_bind, Tryd.sizeOf25 w, Sem.run_pure]
  rw [show c.a.extract 33 (33 + 32) = u8s c.check.l by rw [cl_cellA]; exact extract_check c.key.size c.check.size]
theorem part_n34 (c : Cl) (w : World) : (part 2 c.a 0).run Tryd.prog w = .ok (.int .i64 c.n) w := by
  unfold part
  rw [Sem.run_bind, Tryd.isAgg2 w]
  simp only [Result.andThen_ok]
  rw [show c.a[0]? = some (.int .i64 c.n) by rw [cl_cellA]; exact cellA_get0]
  rfl
theorem sums34 (d : Nat) (x y : Sm) (w : World) : (Op.equalIn (d + 2) 25 (.agg (u8s x.l)) (.agg (u8s y.l))).run Tryd.prog w = .ok (decide (x.l = y.l)) w := by
  obtain ⟨i, hi⟩ := info_u8
  exact run_equalIn_bytes (P := Tryd.prog) d 25 _ 32 i Tryd.underlying25 hi (by kernel_rfl) Tryd.underlying5 Tryd.isAgg5 x.l y.l x.len y.len w
theorem eql_cell34 (d : Nat) (b c : Cl) (w : World) : (Op.equalIn (d + 3) 27 (.agg b.a) (.agg c.a)).run Tryd.prog w = .ok (decide (b = c)) w := by
  obtain ⟨f0, f1, f2, hf, n0, n1, n2, t0, o0, t1, o1, t2, o2⟩ := fields34
  have pk := part_key34
  have pc := part_check34
  have pn := part_n34
  have hq := fun x y => sums34 d x y w
  have hi := run_equalIn_int w (d + 1) 2 .i64 .i64 b.n c.n Tryd.underlying2
  rw [run_equalIn_struct w (d + 2) _ _ _ holds34.1 holds34.2, hf]
  simp only [Op.eqFields, n0, n1, n2, ne_eq, not_false_eq_true, if_true, Sem.run_bind, t0, o0, t1, o1, t2, o2, pn, Result.andThen_ok, hi]
  by_cases e0 : b.n = c.n
  · by_cases e1 : b.key = c.key
    · by_cases e2 : b.check = c.check
      · have h := (Cl.eq_iff b c).1 ⟨e0, e1, e2⟩
        subst h
        simp [pk, pc, hq]
      · have hne : ¬ b = c := fun h => e2 (by rw [h])
        have e3 : ¬ b.check.l = c.check.l := fun h => e2 (Sm.ext_l h)
        simp [e0, e1, e3, hne, pk, pc, hq]
    · have hne : ¬ b = c := fun h => e1 (by rw [h])
      have e3 : ¬ b.key.l = c.key.l := fun h => e1 (Sm.ext_l h)
      simp [e0, e3, hne, pk, hq]
  · have hne : ¬ b = c := fun h => e0 (by rw [h])
    simp [e0, hne]
theorem eql_cl34 (c d : Cl) (w : World) : (binOp .eql 27 (.agg c.a) (.agg d.a)).run Tryd.prog w = .ok (.bool (decide (c = d))) w := by rw [run_eql_struct, eql_cell34 9997]; rfl
theorem infoC34 : (Tryd.prog.info? 27).map (fun i => (i.zero, i.size, i.bytes)) = some (some (.agg Cl.zero.a), 65, 72) := by kernel_rfl
theorem guard34 : Tryd.prog.eqGuardType Tryd.prog.depth 27 = false := by kernel_rfl
theorem buildC34 (n : Int) (K C : Sm) (w : World) : (Instr.build 27 #[(0, .int .i64 n), (1, .agg (u8s K.l)), (2, .agg (u8s C.l))]).run Tryd.prog w = .ok (.agg (Cl.mk n K C).a) w := by rw [cl_cellA]; exact build_cell34 n _ _ K.size C.size w
theorem buildZ34 (w : World) : (Instr.build 27 #[]).run Tryd.prog w = .ok (.agg Cl.zero.a) w := by rw [← zero65_is]; exact build_zero34 w
theorem info49 : (Tryd.prog.info? 114).map (·.size) = some 65 := by kernel_rfl
theorem zero49 (w : World) : (zeroValue 114).run Tryd.prog w = .ok (.agg zero65) w := by kernel_rfl
theorem build_cell49 (n : Int) (K C : Array Value) (hK : K.size = 32) (hC : C.size = 32) (w : World) : (Instr.build 114 #[(0, .int .i64 n), (1, .agg K), (2, .agg C)]).run Tryd.prog w = .ok (.agg (cellA n K C)) w := by
  have hu := run_underlying Tryd.underlying114 w
  have h1 := Tryd.sizeOf2 w
  have hf : Instr.fill (fun x => ([(0, 1), (1, 32), (33, 32)] : List (Nat × Nat))[x]?) (Value.agg zero65).cells [(0, .int .i64 n), (1, .agg K), (2, .agg C)] = some (cellA n K C) := fill_cell zero65_size hK hC
  simp only [Instr.build, Sem.run_bind, zero49 w, Result.andThen_ok, hu]
  simp [h1, hf]
theorem build_zero49 (w : World) : (Instr.build 114 #[]).run Tryd.prog w = .ok (.agg zero65) w := by
  have hu := run_underlying Tryd.underlying114 w
  have h1 := Tryd.sizeOf2 w
  simp only [Instr.build, Sem.run_bind, zero49 w, Result.andThen_ok, hu]
  simp [h1, Instr.fill]
  rfl
theorem fields49 : ∃ f0 f1 f2 : Field, (Tryd.prog.fieldsOf 114).toList = [f0, f1, f2] ∧ f0.name ≠ "_" ∧ f1.name ≠ "_" ∧ f2.name ≠ "_" ∧ f0.type = 2 ∧ f0.offset = 0 ∧ f1.type = 112 ∧ f1.offset = 1 ∧ f2.type = 112 ∧ f2.offset = 33 := by
  have hu := Tryd.underlying114
  have h : ∀ fs, Tryd.prog.underlying 114 = some (.struct fs) → Tryd.prog.fieldsOf 114 = fs := fun fs h => by unfold Program.fieldsOf; rw [h]
  have h2 := h _ hu
  rw [h2]
  exact ⟨_, _, _, rfl, by decide, by decide, by decide, rfl, rfl, rfl, rfl, rfl, rfl⟩
theorem holds49 : Tryd.prog.underlying 114 = some (.struct (Tryd.prog.fieldsOf 114)) ∧ Tryd.prog.stoodInHeld 114 = false := ⟨by kernel_rfl, by kernel_rfl⟩
theorem part_key49 (c : Cl) (w : World) : (part 112 c.a 1).run Tryd.prog w = .ok (.agg (u8s c.key.l)) w := by
  have a1 : (isAgg 112).run Tryd.prog w = .ok true w := by kernel_rfl
  unfold part
  rw [Sem.run_bind, a1]
  simp only [Result.andThen_ok, if_true, Sem.run_bind, Tryd.sizeOf112 w, Sem.run_pure]
  rw [show c.a.extract 1 (1 + 32) = u8s c.key.l by rw [cl_cellA]; exact extract_key c.key.size c.check.size]
theorem part_check49 (c : Cl) (w : World) : (part 112 c.a 33).run Tryd.prog w = .ok (.agg (u8s c.check.l)) w := by
  have a1 : (isAgg 112).run Tryd.prog w = .ok true w := by kernel_rfl
  unfold part
  rw [Sem.run_bind, a1]
  simp only [Result.andThen_ok, if_true, Sem.run_bind, Tryd.sizeOf112 w, Sem.run_pure]
  rw [show c.a.extract 33 (33 + 32) = u8s c.check.l by rw [cl_cellA]; exact extract_check c.key.size c.check.size]
theorem part_n49 (c : Cl) (w : World) : (part 2 c.a 0).run Tryd.prog w = .ok (.int .i64 c.n) w := by
  unfold part
  rw [Sem.run_bind, Tryd.isAgg2 w]
  simp only [Result.andThen_ok]
  rw [show c.a[0]? = some (.int .i64 c.n) by rw [cl_cellA]; exact cellA_get0]
  rfl
theorem sums49 (d : Nat) (x y : Sm) (w : World) : (Op.equalIn (d + 2) 112 (.agg (u8s x.l)) (.agg (u8s y.l))).run Tryd.prog w = .ok (decide (x.l = y.l)) w := by
  obtain ⟨i, hi⟩ := info_u8
  exact run_equalIn_bytes (P := Tryd.prog) d 112 _ 32 i Tryd.underlying112 hi (by kernel_rfl) Tryd.underlying5 Tryd.isAgg5 x.l y.l x.len y.len w
theorem eql_cell49 (d : Nat) (b c : Cl) (w : World) : (Op.equalIn (d + 3) 114 (.agg b.a) (.agg c.a)).run Tryd.prog w = .ok (decide (b = c)) w := by
  obtain ⟨f0, f1, f2, hf, n0, n1, n2, t0, o0, t1, o1, t2, o2⟩ := fields49
  have pk := part_key49
  have pc := part_check49
  have pn := part_n49
  have hq := fun x y => sums49 d x y w
  have hi := run_equalIn_int w (d + 1) 2 .i64 .i64 b.n c.n Tryd.underlying2
  rw [run_equalIn_struct w (d + 2) _ _ _ holds49.1 holds49.2, hf]
  simp only [Op.eqFields, n0, n1, n2, ne_eq, not_false_eq_true, if_true, Sem.run_bind, t0, o0, t1, o1, t2, o2, pn, Result.andThen_ok, hi]
  by_cases e0 : b.n = c.n
  · by_cases e1 : b.key = c.key
    · by_cases e2 : b.check = c.check
      · have h := (Cl.eq_iff b c).1 ⟨e0, e1, e2⟩
        subst h
        simp [pk, pc, hq]
      · have hne : ¬ b = c := fun h => e2 (by rw [h])
        have e3 : ¬ b.check.l = c.check.l := fun h => e2 (Sm.ext_l h)
        simp [e0, e1, e3, hne, pk, pc, hq]
    · have hne : ¬ b = c := fun h => e1 (by rw [h])
      have e3 : ¬ b.key.l = c.key.l := fun h => e1 (Sm.ext_l h)
      simp [e0, e3, hne, pk, hq]
  · have hne : ¬ b = c := fun h => e0 (by rw [h])
    simp [e0, hne]
theorem neq_cl49 (c d : Cl) (w : World) : (binOp .neq 114 (.agg c.a) (.agg d.a)).run Tryd.prog w = .ok (.bool (!decide (c = d))) w := by rw [run_neq_struct, eql_cell49 9997]; rfl


theorem infoC49 : (Tryd.prog.info? 114).map (fun i => (i.zero, i.size, i.bytes)) = some (some (.agg Cl.zero.a), 65, 72) := by kernel_rfl
theorem guard49 : Tryd.prog.eqGuardType Tryd.prog.depth 114 = false := by kernel_rfl
theorem buildC49 (n : Int) (K C : Sm) (w : World) : (Instr.build 114 #[(0, .int .i64 n), (1, .agg (u8s K.l)), (2, .agg (u8s C.l))]).run Tryd.prog w = .ok (.agg (Cl.mk n K C).a) w := by rw [cl_cellA]; exact build_cell49 n _ _ K.size C.size w
theorem buildZ49 (w : World) : (Instr.build 114 #[]).run Tryd.prog w = .ok (.agg Cl.zero.a) w := by rw [← zero65_is]; exact build_zero49 w
section
variable {P : Program} {w0 : World} {Γ : Ctx} {o : Oper}
/-- The address of a field. -/
theorem run_fieldAt {t ft : TypeId} {fs : Array Field} {i off sz : Nat} (hu : P.underlying t = some (.struct fs)) (hf : (fs[i]?).map (fun f => (f.type, f.offset)) = some (ft, off)) (hz : (P.info? ft).map (·.size) = some (sz + 1)) (g o2 : Nat) (w : World) : (Instr.fieldAt t (.pointer (some ⟨g, o2, none⟩)) i).run P w = .ok (.pointer (some ⟨g, o2 + off, none⟩)) w := by
  obtain ⟨f, h1, h2⟩ := Option.map_eq_some_iff.1 hf
  simp only [Prod.mk.injEq] at h2
  obtain ⟨rfl, rfl⟩ := h2
  obtain ⟨inf, hinf, hsz⟩ := Option.map_eq_some_iff.1 hz
  simp [Instr.fieldAt, fieldPlace, run_underlying hu, h1, Instr.sureAddr, sizeOf, typeInfo, hinf, hsz, Addr.add_lit]
theorem cFieldE {t e ft : TypeId} {fs : Array Field} {i off sz : Nat} {x : Operand} {xs : List Value} (ho : o.op = .fieldAddr t x i) (hx : Has w0 Γ x (Ty.at_ e xs)) (hu : P.underlying t = some (.struct fs)) (hf : (fs[i]?).map (fun f => (f.type, f.offset)) = some (ft, off)) (hz : (P.info? ft).map (·.size) = some (sz + 1)) : OpOk P w0 Γ o (Ty.at_ e (xs.drop off)) :=
  .val fun a w hb hs => by
    obtain ⟨v, h1, g, o2, cs, fr, rfl, h2, h3⟩ := hx.see hs (by simp [ho, Op.operands]) hb
    refine ⟨_, ⟨g, o2 + off, cs, fr, rfl, h2, fun j u hu => ?_⟩, ?_⟩
    · rw [List.getElem?_drop] at hu
      rw [Nat.add_assoc]
      exact h3 _ u hu
    · unfold execOp
      simp [ho, h1, run_fieldAt hu hf hz]
theorem cFieldExE {t ft : TypeId} {fs : Array Field} {i off sz g o2 : Nat} {x : Operand} (ho : o.op = .fieldAddr t x i) (hx : OpT Γ x (Ty.ex (.pointer (some ⟨g, o2, none⟩)))) (hu : P.underlying t = some (.struct fs)) (hf : (fs[i]?).map (fun f => (f.type, f.offset)) = some (ft, off)) (hz : (P.info? ft).map (·.size) = some (sz + 1)) : OpOk P w0 Γ o (Ty.ex (.pointer (some ⟨g, o2 + off, none⟩))) :=
  .val fun a w _ hs => by
    obtain ⟨v, h1, h2⟩ := hs x _ (by simp [ho, Op.operands]) hx
    have h2 : v = .pointer (some ⟨g, o2, none⟩) := h2
    refine ⟨_, rfl, ?_⟩
    unfold execOp
    simp [ho, h1, h2, run_fieldAt hu hf hz]
theorem cBuild3 {t : TypeId} {x y z : Operand} {v u q r : Value} (ho : o.op = .build t #[(0, x), (1, y), (2, z)]) (hx : OpT Γ x (Ty.ex v)) (hy : OpT Γ y (Ty.ex u)) (hz : OpT Γ z (Ty.ex q)) (hr : ∀ w : World, (Instr.build t #[(0, v), (1, u), (2, q)]).run P w = .ok r w) : OpOk P w0 Γ o (Ty.ex r) :=
  cBuildP (vs := #[(0, v), (1, u), (2, q)]) ho (fun a w hs => by
    obtain ⟨v', h1, h2⟩ := hs x _ (by simp [ho, Op.operands]) hx
    obtain ⟨u', h3, h4⟩ := hs y _ (by simp [ho, Op.operands]) hy
    obtain ⟨q', h5, h6⟩ := hs z _ (by simp [ho, Op.operands]) hz
    have h2 : v' = v := h2
    have h4 : u' = u := h4
    have h6 : q' = q := h6
    simp [h1, h2, h3, h4, h5, h6]) hr
theorem cBuildE {t : TypeId} {r : Value} (ho : o.op = .build t #[]) (hr : ∀ w : World, (Instr.build t #[]).run P w = .ok r w) : OpOk P w0 Γ o (Ty.ex r) :=
  cBuildP (vs := #[]) ho (fun a w hs => by simp) hr
end
theorem Cl.d33 (c : Cl) : c.enc.drop 33 = c.check.enc := by
  have h : c.key.enc.length = 32 := by simp [Sm.enc, c.key.len]
  unfold Cl.enc
  rw [List.drop_succ_cons, List.drop_append_of_le_length (by omega), List.drop_of_length_le (by omega)]
  rfl
theorem at_pre {e : TypeId} {xs ys : List Value} : ∀ w v, (Ty.at_ e (xs ++ ys)).p w v → (Ty.at_ e xs).p w v := fun w v ⟨g, off, cs, fr, h1, h2, h3⟩ => ⟨g, off, cs, fr, h1, h2, fun j u hu => h3 j u (by rw [List.getElem?_append_left (List.getElem?_eq_some_iff.1 hu).1]; exact hu)⟩
theorem size_i64 : (Tryd.prog.info? 2).map (·.size) = some 1 := by kernel_rfl
theorem cBoxCl {P : Program} {w0 : World} {Γ : Ctx} {o : Oper} {t : TypeId} {x : Operand} {c : Cl} (ho : o.op = .box t x) (hx : OpT Γ x (Ty.ex (.agg c.a))) : OpOk P w0 Γ o (Ty.at_ t c.enc) := cBox ho hx
section
variable {w0 : World} {Γ : Ctx} {o : Oper} {x : Operand} {e : TypeId} {c : Cl}
theorem cFldN34 (ho : o.op = .fieldAddr 27 x 0) (hx : Has w0 Γ x (Ty.at_ e c.enc)) : OpOk Tryd.prog w0 Γ o (Ty.at_ e [.int .i64 c.n]) :=
  (cFieldE (P := Tryd.prog) ho hx Tryd.underlying27 rfl size_i64).conv fun w v h => at_pre (xs := [.int .i64 c.n]) (ys := c.key.enc ++ c.check.enc) w v h
theorem cFldK34 (ho : o.op = .fieldAddr 27 x 1) (hx : Has w0 Γ x (Ty.at_ e c.enc)) : OpOk Tryd.prog w0 Γ o (Ty.at_ e c.key.enc) :=
  (cFieldE (P := Tryd.prog) ho hx Tryd.underlying27 rfl sizeS).conv fun w v h => at_pre (xs := c.key.enc) (ys := c.check.enc) w v h
theorem cFldC34 (ho : o.op = .fieldAddr 27 x 2) (hx : Has w0 Γ x (Ty.at_ e c.enc)) : OpOk Tryd.prog w0 Γ o (Ty.at_ e c.check.enc) :=
  (cFieldE (P := Tryd.prog) ho hx Tryd.underlying27 rfl sizeS).conv fun _ _ h => c.d33 ▸ h
theorem cLoadCl34 (ho : o.op = .load 27 x) (hx : Has w0 Γ x (Ty.at_ e c.enc)) : OpOk Tryd.prog w0 Γ o (Ty.ex (.agg c.a)) :=
  cLoadAll (cs := c.a) ho hx Tryd.underlying27 rfl (by rw [c.size]; exact info34)
theorem cFldN49 (ho : o.op = .fieldAddr 114 x 0) (hx : Has w0 Γ x (Ty.at_ e c.enc)) : OpOk Tryd.prog w0 Γ o (Ty.at_ e [.int .i64 c.n]) :=
  (cFieldE (P := Tryd.prog) ho hx Tryd.underlying114 rfl size_i64).conv fun w v h => at_pre (xs := [.int .i64 c.n]) (ys := c.key.enc ++ c.check.enc) w v h
theorem cFldK49 (ho : o.op = .fieldAddr 114 x 1) (hx : Has w0 Γ x (Ty.at_ e c.enc)) : OpOk Tryd.prog w0 Γ o (Ty.at_ e c.key.enc) :=
  (cFieldE (P := Tryd.prog) ho hx Tryd.underlying114 rfl sizeR).conv fun w v h => at_pre (xs := c.key.enc) (ys := c.check.enc) w v h
theorem cFldC49 (ho : o.op = .fieldAddr 114 x 2) (hx : Has w0 Γ x (Ty.at_ e c.enc)) : OpOk Tryd.prog w0 Γ o (Ty.at_ e c.check.enc) :=
  (cFieldE (P := Tryd.prog) ho hx Tryd.underlying114 rfl sizeR).conv fun _ _ h => c.d33 ▸ h
theorem cLoadCl49 (ho : o.op = .load 114 x) (hx : Has w0 Γ x (Ty.at_ e c.enc)) : OpOk Tryd.prog w0 Γ o (Ty.ex (.agg c.a)) :=
  cLoadAll (cs := c.a) ho hx Tryd.underlying114 rfl (by rw [c.size]; exact info49)
theorem cLoadN (ho : o.op = .load 2 x) (hx : Has w0 Γ x (Ty.at_ e [.int .i64 c.n])) : OpOk Tryd.prog w0 Γ o (Ty.ex (.int .i64 c.n)) := cLoad1 ho hx (pts_at _ _) Tryd.underlying2 rfl
end
theorem wrap_is (a : Int) : IntKind.i64.wrap a = wrap64 a := by
  exact IntWalk.i64_left a
theorem xor_ty (x y : Sm) : Fn2 Tryd.prog 74 (Ty.ex (.agg (u8s x.l))) (Ty.ex (.agg (u8s y.l))) (Ty.ex (.agg (u8s (x.xor y).l))) :=
  ⟨fun args w => by kernel_rfl, fun w v u hv hu => by
    have hv : v = .agg (u8s x.l) := hv
    have hu : u = .agg (u8s y.l) := hu
    subst hv hu
    exact Ret.of (Xor_any x y w)⟩
theorem r1xor_ty (x y : Sm) : Fn2 Tryd.prog 81 (Ty.ex (.agg (u8s x.l))) (Ty.ex (.agg (u8s y.l))) (Ty.ex (.agg (u8s (x.xor y).l))) :=
  ⟨fun args w => by kernel_rfl, fun w v u hv hu => by
    have hv : v = .agg (u8s x.l) := hv
    have hu : u = .agg (u8s y.l) := hu
    subst hv hu
    exact Ret.of (R1Xor_any x y w)⟩
end Go.Proofs.YtgmeagkolahkoaaDoor

/- Regions by types: memory of the call's own that an operation takes over (append in place; constants that are frozen): each such slot has blocks of its own, told apart from all others. -/
namespace Go.Proofs.YtgmeagkolahkoaaDoor
open Go.RowKit

/-- A type with the blocks that are its own. -/
structure OTy where
  τ : Ty
  q : World → Value → List Nat → Prop
  to : ∀ {w : World} {v : Value} {S : List Nat}, q w v S → τ.p w v
  st : ∀ {w w' : World} {v : Value} {S T : List Nat}, q w v S → Keeps T w w' → (∀ b ∈ S, b ∉ T) → q w' v S
  lt : ∀ {w : World} {v : Value} {S : List Nat}, q w v S → ∀ b ∈ S, b < w.heap.size
def OTy.ex (v : Value) : OTy := ⟨Ty.ex v, fun _ u S => u = v ∧ S = [], fun h => h.1, fun h _ _ => h, fun h b hb => by rw [h.2] at hb; cases hb⟩
def OTy.seg (w0 : World) (e : TypeId) (sz n : Nat) (xs : List Value) : OTy := ⟨Ty.seg w0 e sz n xs, fun w v S => Seg w e sz v n xs S ∧ ∀ y ∈ S, w0.heap.size ≤ y, fun h => ⟨_, h.1, h.2⟩, fun h k hd => ⟨h.1.keeps k hd, h.2⟩, fun h b hb => h.1.lt b hb⟩
/-- A slice in a block of its own, read alone. -/
def OTy.slo (e : TypeId) (n : Nat) (xs : List Value) : OTy := ⟨Ty.sl e n xs, fun w v S => ∃ g off c cs fr, v = .slice (some ⟨g, off, none⟩) n c ∧ S = [g] ∧ n ≤ c ∧ c ≤ maxLen ∧ w.heap[g]? = some (.cells cs e fr) ∧ ∀ (j : Nat) (u : Value), xs[j]? = some u → cs[off + j]? = some u,
  fun ⟨g, off, c, cs, fr, h1, _, h3, h4, h5, h6⟩ => ⟨_, c, h1, h3, h4, fun h => (by cases h), fun j u hu => ⟨g, off, cs, fr, rfl, h5, h6 j u hu⟩⟩,
  fun ⟨g, off, c, cs, fr, h1, h2, h3, h4, h5, h6⟩ k hd => ⟨g, off, c, cs, fr, h1, h2, h3, h4, (k.block g (Array.getElem?_eq_some_iff.1 h5).1 (hd g (by simp [h2]))).trans h5, h6⟩,
  fun ⟨g, off, c, cs, fr, h1, h2, h3, h4, h5, h6⟩ b hb => by
    rw [h2] at hb
    simp only [List.mem_singleton] at hb
    subst hb
    exact (Array.getElem?_eq_some_iff.1 h5).1⟩

/-- A new variable of the region's own. -/
def OTy.var (w0 : World) (t : TypeId) (z : Array Value) : OTy := ⟨Ty.var w0 t z, fun w v S => ∃ g, v = .pointer (some ⟨g, 0, none⟩) ∧ S = [g] ∧ w0.heap.size ≤ g ∧ Blk w g t z, fun ⟨g, h1, _, h3, h4⟩ => ⟨g, h1, h3, h4⟩,
  fun ⟨g, h1, h2, h3, h4⟩ k hd => ⟨g, h1, h2, h3, h4.keeps k (hd g (by simp [h2]))⟩, fun ⟨g, _, h2, _, h4⟩ b hb => by
    rw [h2] at hb
    simp only [List.mem_singleton] at hb
    subst hb
    exact h4.lt⟩
abbrev OCtx := List (Nat × OTy)
def olook : OCtx → Nat → Option OTy
  | [], _ => none
  | p :: Γ, s => bif Nat.beq p.1 s then some p.2 else olook Γ s
theorem olook_same (d : Nat) (V : OTy) (Γ : OCtx) : olook ((d, V) :: Γ) d = some V := by simp [olook]
theorem olook_ne {d s : Nat} (V : OTy) (Γ : OCtx) (h : d ≠ s) : olook ((d, V) :: Γ) s = olook Γ s := by
  have : Nat.beq d s = false := by
    cases hb : Nat.beq d s with
    | false => rfl
    | true => exact absurd (Nat.eq_of_beq_eq_true hb) h
  simp [olook, this]

/-- An operation that takes over nothing: what it yields is new, or a plain value. -/
def OpO (P : Program) (w0 : World) (Γ : Ctx) (o : Oper) (V : OTy) : Prop :=
  ∀ (a : Act) (w : World) (K : Act → World → Prop) (Q : Exit → Act → World → Prop), Below w0.heap.size w0 w →
    (∀ (s : Nat) (τ : Ty), s ∈ Oper.reads o → look Γ s = some τ → ∃ v, a.tmps[s]? = some v ∧ τ.p w v) →
    (∀ v w' S, V.q w' v S → (∀ b ∈ S, w.heap.size ≤ b) → Below w.heap.size w w' → K (a.put o.dst v) w') → o.wp P a w K Q
/-- An operation that takes over slot s. -/
def OpTk (P : Program) (w0 : World) (Γ : Ctx) (o : Oper) (U V : OTy) (s : Nat) : Prop :=
  ∀ (a : Act) (w : World) (S0 : List Nat) (K : Act → World → Prop) (Q : Exit → Act → World → Prop), Below w0.heap.size w0 w →
    (∀ (s : Nat) (τ : Ty), s ∈ Oper.reads o → look Γ s = some τ → ∃ v, a.tmps[s]? = some v ∧ τ.p w v) →
    (∃ v, a.tmps[s]? = some v ∧ U.q w v S0) →
    (∀ v w' S, V.q w' v S → (∀ b ∈ S, b ∈ S0 ∨ w.heap.size ≤ b) → Keeps S0 w w' → K (a.put o.dst v) w') → o.wp P a w K Q
inductive FactO (P : Program) (ops : Array Oper) (w0 : World) (Γ : Ctx) (o : Oper) (V : OTy) : Prop
  | run (hg : o.guard = none) (h : OpO P w0 Γ o V)
  | yes {j s : Nat} {b : Bool} (hg : o.guard = some (j, b)) (hj : slotOf ops j = some s) (hs : look Γ s = some (Ty.ex (.bool b))) (h : OpO P w0 Γ o V)
  | no {j s : Nat} {b c : Bool} (hg : o.guard = some (j, c)) (hj : slotOf ops j = some s) (hs : look Γ s = some (Ty.ex (.bool b))) (hbc : (b == c) = false) (hV : V = OTy.ex undef)
inductive FactT (P : Program) (ops : Array Oper) (w0 : World) (Γ : Ctx) (o : Oper) (U V : OTy) (s0 : Nat) : Prop
  | run (hg : o.guard = none) (h : OpTk P w0 Γ o U V s0)
  | yes {j s : Nat} {b : Bool} (hg : o.guard = some (j, b)) (hj : slotOf ops j = some s) (hs : look Γ s = some (Ty.ex (.bool b))) (h : OpTk P w0 Γ o U V s0)
/-- Which slot an operation takes over. -/
def takes : List (Nat × Nat) → Nat → Option Nat
  | [], _ => none
  | p :: T, i => bif Nat.beq p.1 i then some p.2 else takes T i
theorem takes_mem : ∀ {T : List (Nat × Nat)} {i s : Nat}, takes T i = some s → (i, s) ∈ T
  | p :: T, i, s, h => by
    unfold takes at h
    cases hb : Nat.beq p.1 i with
    | true =>
      rw [hb] at h
      simp only [cond_true, Option.some.injEq] at h
      have := Nat.eq_of_beq_eq_true hb
      subst this h
      simp
    | false => rw [hb] at h; exact List.mem_cons_of_mem _ (takes_mem h)
inductive LineO (P : Program) (ops : Array Oper) (w0 : World) (T : List (Nat × Nat)) : Nat → Ctx → OCtx → List Oper → List OTy → Prop
  | nil {i : Nat} {Γ : Ctx} {Ω : OCtx} : LineO P ops w0 T i Γ Ω [] []
  | cons {i : Nat} {Γ : Ctx} {Ω : OCtx} {d : Nat} {o : Oper} {V : OTy} {os : List Oper} {Vs : List OTy} (hd : o.dst = some d) (hT : takes T i = none) (h : FactO P ops w0 Γ o V) (t : LineO P ops w0 T (i + 1) ((d, V.τ) :: Γ) ((d, V) :: Ω) os Vs) : LineO P ops w0 T i Γ Ω (o :: os) (V :: Vs)
  | take {i : Nat} {Γ : Ctx} {Ω : OCtx} {d s : Nat} {o : Oper} {U V : OTy} {os : List Oper} {Vs : List OTy} (hd : o.dst = some d) (hT : takes T i = some s) (hU : olook Ω s = some U) (h : FactT P ops w0 Γ o U V s) (t : LineO P ops w0 T (i + 1) ((d, V.τ) :: Γ) ((d, V) :: Ω) os Vs) : LineO P ops w0 T i Γ Ω (o :: os) (V :: Vs)
def extO : Ctx → List Oper → List OTy → Ctx
  | Γ, o :: os, V :: Vs => extO ((o.dst.getD 0, V.τ) :: Γ) os Vs
  | Γ, _, _ => Γ
/-- Slots that were taken over are told no more. -/
def hideT (T : List (Nat × Nat)) (Γ : Ctx) : Ctx := T.foldr (fun p Γ => (p.2, Ty.any) :: Γ) Γ
theorem hideT_look {T : List (Nat × Nat)} {Γ : Ctx} {s : Nat} {τ : Ty} (h : look (hideT T Γ) s = some τ) : τ = Ty.any ∧ (∃ i, (i, s) ∈ T) ∨ look Γ s = some τ ∧ ∀ i, (i, s) ∉ T := by
  induction T with
  | nil => exact .inr ⟨h, fun i hi => by cases hi⟩
  | cons p T ih =>
    have h' : look ((p.2, Ty.any) :: hideT T Γ) s = some τ := h
    by_cases hp : p.2 = s
    · subst hp
      rw [look_same] at h'
      injection h' with h'
      exact .inl ⟨h'.symm, p.1, by simp⟩
    · rw [look_ne _ _ hp] at h'
      rcases ih h' with ⟨h1, i, h2⟩ | ⟨h1, h2⟩
      · exact .inl ⟨h1, i, by simp [h2]⟩
      · refine .inr ⟨h1, fun i hi => ?_⟩
        rcases List.mem_cons.1 hi with h3 | h3
        · subst h3; exact hp rfl
        · exact h2 i h3
/-- What is asked of taking over: it reads that slot; no other reads it. -/
def takeB (N : Nat) (ops : Array Oper) (n : Nat) (T : List (Nat × Nat)) : Bool := T.all fun p => decide (p.1 < n) && decide (p.2 < N) &&
  (match ops[p.1]? with | some o => (o.looksAt ops).contains p.2 | none => false) &&
  (List.range n).all fun k => (k == p.1) || (match ops[k]? with | some o => !(o.looksAt ops).contains p.2 | none => true)
theorem takeB_at {N : Nat} {ops : Array Oper} {n : Nat} {T : List (Nat × Nat)} (h : takeB N ops n T = true) {i s : Nat} (hm : (i, s) ∈ T) : (i < n ∧ s < N) ∧ (∀ o, ops[i]? = some o → s ∈ o.looksAt ops) ∧ ∀ k o, k < n → ops[k]? = some o → s ∈ o.looksAt ops → k = i := by
  have h1 := List.all_eq_true.1 h _ hm
  simp only [Bool.and_eq_true, decide_eq_true_eq] at h1
  obtain ⟨⟨⟨h2, h2'⟩, h3⟩, h4⟩ := h1
  refine ⟨⟨h2, h2'⟩, fun o ho => ?_, fun k o hk ho hs => ?_⟩
  · rw [ho] at h3
    simpa using h3
  · have h5 := List.all_eq_true.1 h4 k (List.mem_range.2 hk)
    rw [ho] at h5
    replace h5 : ((k == i) || !(o.looksAt ops).contains s) = true := h5
    have h6 : ((o.looksAt ops).contains s) = true := by simpa using hs
    rw [h6] at h5
    simpa using h5

section
variable {P : Program} {ops : Array Oper} {w0 : World} {Γ : Ctx} {o : Oper} {V U : OTy}
theorem FactO.at_work (h : FactO P ops w0 Γ o V) {a : Act} {w : World} (hb : Below w0.heap.size w0 w) (hs : Sees ops Γ o a w) (K : Act → World → Prop) (Q : Exit → Act → World → Prop)
    (hK : ∀ v w' S, V.q w' v S → (∀ b ∈ S, w.heap.size ≤ b) → Below w.heap.size w w' → K (a.put o.dst v) w') :
    if Region.wanted o (yielded ops a.tmps) then o.wp P a w K Q else K (a.put o.dst undef) w := by
  cases h with
  | run hg h =>
    rw [if_pos (by simp [Region.wanted, hg])]
    exact h a w K Q hb (fun s τ hr hl => hs s τ (reads_looksAt hr) hl) hK
  | @yes j s b hg hj hl h =>
    obtain ⟨v, hv, he⟩ := hs s _ (guard_looksAt hg hj) hl
    have he : v = .bool b := he
    subst he
    rw [if_pos (by simp [Region.wanted, hg, yielded_of hj hv])]
    exact h a w K Q hb (fun s τ hr hl => hs s τ (reads_looksAt hr) hl) hK
  | @no j s b c hg hj hl hbc hV =>
    obtain ⟨v, hv, he⟩ := hs s _ (guard_looksAt hg hj) hl
    have he : v = .bool b := he
    subst he
    rw [if_neg (by cases b <;> cases c <;> simp at hbc <;> simp [Region.wanted, hg, yielded_of hj hv])]
    exact hK undef w [] (by rw [hV]; exact ⟨rfl, rfl⟩) (by simp) (Below.refl _ _)
theorem FactT.at_work {s0 : Nat} (h : FactT P ops w0 Γ o U V s0) {a : Act} {w : World} {S0 : List Nat} (hb : Below w0.heap.size w0 w) (hs : Sees ops Γ o a w) (hU : ∃ v, a.tmps[s0]? = some v ∧ U.q w v S0) (K : Act → World → Prop) (Q : Exit → Act → World → Prop)
    (hK : ∀ v w' S, V.q w' v S → (∀ b ∈ S, b ∈ S0 ∨ w.heap.size ≤ b) → Keeps S0 w w' → K (a.put o.dst v) w') :
    if Region.wanted o (yielded ops a.tmps) then o.wp P a w K Q else K (a.put o.dst undef) w := by
  cases h with
  | run hg h =>
    rw [if_pos (by simp [Region.wanted, hg])]
    exact h a w S0 K Q hb (fun s τ hr hl => hs s τ (reads_looksAt hr) hl) hU hK
  | @yes j s b hg hj hl h =>
    obtain ⟨v, hv, he⟩ := hs s _ (guard_looksAt hg hj) hl
    have he : v = .bool b := he
    subst he
    rw [if_pos (by simp [Region.wanted, hg, yielded_of hj hv])]
    exact h a w S0 K Q hb (fun s τ hr hl => hs s τ (reads_looksAt hr) hl) hU hK
theorem LineO.at_ {T : List (Nat × Nat)} {l : List Oper} {Vs : List OTy} {m : Nat} {Ω : OCtx} (h : LineO P ops w0 T m Γ Ω l Vs) : ∀ (i : Nat) (o : Oper), l[i]? = some o → ∃ V Γi, Vs[i]? = some V ∧
    (takes T (m + i) = none ∧ FactO P ops w0 Γi o V ∨ ∃ s U, takes T (m + i) = some s ∧ FactT P ops w0 Γi o U V s ∧ ((∃ (j : Nat) (oj : Oper), j < i ∧ l[j]? = some oj ∧ oj.dst = some s ∧ Vs[j]? = some U) ∨ olook Ω s = some U)) ∧
    ∀ (s : Nat) (τ : Ty), look Γi s = some τ → (∃ (j : Nat) (oj : Oper) (Vj : OTy), j < i ∧ l[j]? = some oj ∧ oj.dst = some s ∧ Vs[j]? = some Vj ∧ Vj.τ = τ) ∨ ((∀ (j : Nat) (oj : Oper), j < i → l[j]? = some oj → oj.dst ≠ some s) ∧ look Γ s = some τ) := by
  have key : ∀ {m : Nat} {Γ : Ctx} {Ω : OCtx} {d : Nat} {o : Oper} {V : OTy} {os : List Oper} {Vs : List OTy} (hd : o.dst = some d)
      (ih : ∀ (i : Nat) (o : Oper), os[i]? = some o → ∃ V' Γi, Vs[i]? = some V' ∧
        (takes T (m + 1 + i) = none ∧ FactO P ops w0 Γi o V' ∨ ∃ s U, takes T (m + 1 + i) = some s ∧ FactT P ops w0 Γi o U V' s ∧ ((∃ (j : Nat) (oj : Oper), j < i ∧ os[j]? = some oj ∧ oj.dst = some s ∧ Vs[j]? = some U) ∨ olook ((d, V) :: Ω) s = some U)) ∧
        ∀ (s : Nat) (τ : Ty), look Γi s = some τ → (∃ (j : Nat) (oj : Oper) (Vj : OTy), j < i ∧ os[j]? = some oj ∧ oj.dst = some s ∧ Vs[j]? = some Vj ∧ Vj.τ = τ) ∨ ((∀ (j : Nat) (oj : Oper), j < i → os[j]? = some oj → oj.dst ≠ some s) ∧ look ((d, V.τ) :: Γ) s = some τ))
      (i : Nat) (o' : Oper), os[i]? = some o' → ∃ V' Γi, (V :: Vs)[i + 1]? = some V' ∧
        (takes T (m + (i + 1)) = none ∧ FactO P ops w0 Γi o' V' ∨ ∃ s U, takes T (m + (i + 1)) = some s ∧ FactT P ops w0 Γi o' U V' s ∧ ((∃ (j : Nat) (oj : Oper), j < i + 1 ∧ (o :: os)[j]? = some oj ∧ oj.dst = some s ∧ (V :: Vs)[j]? = some U) ∨ olook Ω s = some U)) ∧
        ∀ (s : Nat) (τ : Ty), look Γi s = some τ → (∃ (j : Nat) (oj : Oper) (Vj : OTy), j < i + 1 ∧ (o :: os)[j]? = some oj ∧ oj.dst = some s ∧ (V :: Vs)[j]? = some Vj ∧ Vj.τ = τ) ∨ ((∀ (j : Nat) (oj : Oper), j < i + 1 → (o :: os)[j]? = some oj → oj.dst ≠ some s) ∧ look Γ s = some τ) := by
    intro m Γ Ω d o V os Vs hd ih i o' ho'
    obtain ⟨V', Γi, h1, h2, h3⟩ := ih i o' ho'
    refine ⟨V', Γi, by simpa using h1, ?_, fun s τ hl => ?_⟩
    · rw [show m + (i + 1) = m + 1 + i by omega]
      rcases h2 with h2 | ⟨s, U, h4, h5, h6⟩
      · exact .inl h2
      · refine .inr ⟨s, U, h4, h5, ?_⟩
        rcases h6 with ⟨j, oj, hj, hoj, hds, hVj⟩ | h6
        · exact .inl ⟨j + 1, oj, by omega, by simpa using hoj, hds, by simpa using hVj⟩
        · by_cases hds : d = s
          · subst hds
            rw [olook_same] at h6
            injection h6 with h6
            subst h6
            exact .inl ⟨0, o, by omega, rfl, hd, rfl⟩
          · rw [olook_ne _ _ hds] at h6
            exact .inr h6
    · rcases h3 s τ hl with ⟨j, oj, Vj, hj, hoj, hds, hVj, hτ⟩ | ⟨hno, hlk⟩
      · exact .inl ⟨j + 1, oj, Vj, by omega, by simpa using hoj, hds, by simpa using hVj, hτ⟩
      · by_cases hds : d = s
        · subst hds
          rw [look_same] at hlk
          injection hlk with hlk
          exact .inl ⟨0, o, V, by omega, rfl, hd, rfl, hlk⟩
        · rw [look_ne _ _ hds] at hlk
          refine .inr ⟨fun j oj hj hoj => ?_, hlk⟩
          cases j with
          | zero =>
            simp only [List.getElem?_cons_zero, Option.some.injEq] at hoj
            subst hoj
            rw [hd]
            simpa using hds
          | succ j => exact hno j oj (by omega) (by simpa using hoj)
  induction h with
  | nil => intro i o h; simp at h
  | @cons m Γ Ω d o V os Vs hd hT hF t ih =>
    intro i o' ho'
    cases i with
    | zero =>
      simp only [List.getElem?_cons_zero, Option.some.injEq] at ho'
      subst ho'
      exact ⟨V, Γ, rfl, .inl ⟨hT, hF⟩, fun s τ hl => .inr ⟨fun j oj hj => absurd hj (Nat.not_lt_zero _), hl⟩⟩
    | succ i => exact key hd ih i o' (by simpa using ho')
  | @take m Γ Ω d s o U V os Vs hd hT hU hF t ih =>
    intro i o' ho'
    cases i with
    | zero =>
      simp only [List.getElem?_cons_zero, Option.some.injEq] at ho'
      subst ho'
      exact ⟨V, Γ, rfl, .inr ⟨s, U, hT, hF, .inr hU⟩, fun s τ hl => .inr ⟨fun j oj hj => absurd hj (Nat.not_lt_zero _), hl⟩⟩
    | succ i => exact key hd ih i o' (by simpa using ho')
theorem LineO.ext_look {T : List (Nat × Nat)} {l : List Oper} {Vs : List OTy} {m : Nat} {Ω : OCtx} (h : LineO P ops w0 T m Γ Ω l Vs) : ∀ (s : Nat) (τ : Ty), look (extO Γ l Vs) s = some τ →
    (∃ (j : Nat) (oj : Oper) (Vj : OTy), l[j]? = some oj ∧ oj.dst = some s ∧ Vs[j]? = some Vj ∧ Vj.τ = τ) ∨ ((∀ (j : Nat) (oj : Oper), l[j]? = some oj → oj.dst ≠ some s) ∧ look Γ s = some τ) := by
  have key : ∀ {Γ : Ctx} {d : Nat} {o : Oper} {V : OTy} {os : List Oper} {Vs : List OTy} (hd : o.dst = some d)
      (ih : ∀ (s : Nat) (τ : Ty), look (extO ((d, V.τ) :: Γ) os Vs) s = some τ → (∃ (j : Nat) (oj : Oper) (Vj : OTy), os[j]? = some oj ∧ oj.dst = some s ∧ Vs[j]? = some Vj ∧ Vj.τ = τ) ∨ ((∀ (j : Nat) (oj : Oper), os[j]? = some oj → oj.dst ≠ some s) ∧ look ((d, V.τ) :: Γ) s = some τ))
      (s : Nat) (τ : Ty), look (extO Γ (o :: os) (V :: Vs)) s = some τ → (∃ (j : Nat) (oj : Oper) (Vj : OTy), (o :: os)[j]? = some oj ∧ oj.dst = some s ∧ (V :: Vs)[j]? = some Vj ∧ Vj.τ = τ) ∨ ((∀ (j : Nat) (oj : Oper), (o :: os)[j]? = some oj → oj.dst ≠ some s) ∧ look Γ s = some τ) := by
    intro Γ d o V os Vs hd ih s τ hl
    have e : extO Γ (o :: os) (V :: Vs) = extO ((d, V.τ) :: Γ) os Vs := by simp [extO, hd]
    rw [e] at hl
    rcases ih s τ hl with ⟨j, oj, Vj, hoj, hds, hVj, hτ⟩ | ⟨hno, hlk⟩
    · exact .inl ⟨j + 1, oj, Vj, by simpa using hoj, hds, by simpa using hVj, hτ⟩
    · by_cases hds : d = s
      · subst hds
        rw [look_same] at hlk
        injection hlk with hlk
        exact .inl ⟨0, o, V, rfl, hd, rfl, hlk⟩
      · rw [look_ne _ _ hds] at hlk
        refine .inr ⟨fun j oj hoj => ?_, hlk⟩
        cases j with
        | zero =>
          simp only [List.getElem?_cons_zero, Option.some.injEq] at hoj
          subst hoj
          rw [hd]
          simpa using hds
        | succ j => exact hno j oj (by simpa using hoj)
  induction h with
  | nil => intro s τ hl; exact .inr ⟨fun j oj h => by simp at h, hl⟩
  | @cons m Γ Ω d o V os Vs hd hT hF t ih => exact key hd ih
  | @take m Γ Ω d s o U V os Vs hd hT hU hF t ih => exact key hd ih
end

/-- Listed, and not taken over. -/
def Live (T : List (Nat × Nat)) (listed : Array Bool) (s : Nat) : Prop := ∀ i, takes T i = some s → listed.getD i false = false
/-- Of the operations that are listed; F: the blocks that are each one's own. -/
structure TInvO (N n : Nat) (l : List Oper) (Vs : List OTy) (T : List (Nat × Nat)) (a0 : Act) (w0 : World) (listed : Array Bool) (a : Act) (w : World) : Prop where
  below : Below w0.heap.size w0 w
  defers : a.defers = []
  size : a.tmps.size = N
  out : ∀ s, (∀ (j : Nat) (oj : Oper), j < n → listed.getD j false = true → l[j]? = some oj → oj.dst ≠ some s) → a.tmps[s]? = a0.tmps[s]?
  own : ∃ F : Nat → List Nat, (∀ (j : Nat) (oj : Oper) (d : Nat) (V : OTy), j < n → listed.getD j false = true → l[j]? = some oj → oj.dst = some d → Vs[j]? = some V → Live T listed d → ∃ v, a.tmps[d]? = some v ∧ V.q w v (F j) ∧ ∀ b ∈ F j, w0.heap.size ≤ b) ∧
    ∀ (j k : Nat) (oj ok : Oper) (dj dk : Nat), j < n → k < n → j ≠ k → listed.getD j false = true → listed.getD k false = true → l[j]? = some oj → l[k]? = some ok → oj.dst = some dj → ok.dst = some dk → Live T listed dj → Live T listed dk → ∀ b ∈ F j, b ∉ F k

section
variable {P : Program} {w0 : World} {Γ : Ctx} {N n : Nat} {l : List Oper} {Vs : List OTy} {T : List (Nat × Nat)} {a0 : Act} {ops : Array Oper}
theorem TInvO.start (hF : Fr N Γ a0 w0) {w : World} (hb : Below w0.heap.size w0 w) (m : Nat) : TInvO N n l Vs T a0 w0 (Array.replicate m false) a0 w :=
  ⟨hb, hF.defers, hF.size, fun _ _ => rfl, fun _ => [], fun j _ _ _ _ h => (by rw [getD_replicate_false] at h; cases h), fun j _ _ _ _ _ _ _ _ h => (by rw [getD_replicate_false] at h; cases h)⟩
theorem TInvO.step (hB : regB ops N n = true) (hTB : takeB N ops n T = true) (hl : ∀ i, i < n → l[i]? = ops[i]?) (hL : LineO P ops w0 T 0 Γ [] l Vs) (hF : Fr N Γ a0 w0) {listed : Array Bool} {a : Act} {w : World} (hI : TInvO N n l Vs T a0 w0 listed a w)
    (hsz : listed.size = ops.size) (hcl : ∀ (j : Nat) (oj : Oper), ops[j]? = some oj → listed.getD j false = true → ∀ e ∈ oj.after, Region.binds .any e = true → listed.getD e.on false = true)
    {i : Nat} {o : Oper} (hi : i < n) (ho : ops[i]? = some o) (hun : listed.getD i false = false) (hdep : ∀ e ∈ o.after, Region.binds .any e = true → listed.getD e.on false = true) (K : Act → World → Prop) (Q : Exit → Act → World → Prop)
    (hK : ∀ a' w', TInvO N n l Vs T a0 w0 (listed.setIfInBounds i true) a' w' → K a' w') :
    if Region.wanted o (yielded ops a.tmps) then o.wp P a w K Q else K (a.put o.dst undef) w := by
  have hli : l[i]? = some o := (hl i hi).trans ho
  obtain ⟨V, Γi, hV, hFa, hlk⟩ := hL.at_ i o hli
  rw [Nat.zero_add] at hFa
  obtain ⟨o', d, ho', hd, hdN, _, hoth⟩ := regB_at hB hi
  obtain rfl : o = o' := Option.some.inj (ho.symm.trans ho')
  obtain ⟨F, hown, hdis⟩ := hI.own
  have wf : ∀ {p q : Nat} {op : Oper}, ops[p]? = some op → Region.waitsFor .any ops p q = true → ∃ e ∈ op.after, Region.binds .any e = true ∧ e.on = q := fun {p q op} hp hw => by
    obtain ⟨oj, hoj, e, he, hb, hon⟩ := Region.waitsFor_spec hw
    obtain rfl : op = oj := Option.some.inj (hp.symm.trans hoj)
    exact ⟨e, he, hb, hon⟩
  -- what is looked at by o alone is live
  have alive : ∀ s, s ∈ o.looksAt ops → Live T listed s := fun s hs i' hi' => by
    obtain ⟨h1, _, h3⟩ := takeB_at hTB (takes_mem hi')
    have := h3 i o hi ho hs
    subst this
    exact hun
  -- the writer of a slot that o looks at is listed
  have writer : ∀ (s j : Nat) (oj : Oper), s ∈ o.looksAt ops → j < i → l[j]? = some oj → oj.dst = some s → listed.getD j false = true := fun s j oj hs hj hoj hds => by
    have hjn : j < n := by omega
    have hoj' : ops[j]? = some oj := (hl j hjn).symm.trans hoj
    obtain ⟨oj2, dj, hoj2, hdj, _, _, hothj⟩ := regB_at hB hjn
    obtain rfl : oj = oj2 := Option.some.inj (hoj'.symm.trans hoj2)
    obtain rfl : dj = s := Option.some.inj (hdj.symm.trans hds)
    have h1 := ((hothj i o hi ho (by omega)).2 hs).1 hj
    obtain ⟨e, he, hb, hon⟩ := wf ho h1
    have h2 := hdep e he hb
    rwa [hon] at h2
  have hsees : Sees ops Γi o a w := by
    intro s τ hs hls
    rcases hlk s τ hls with ⟨j, oj, Vj, hj, hoj, hds, hVj, rfl⟩ | ⟨hno, hl0⟩
    · have hjn : j < n := by omega
      obtain ⟨v, hv1, hv2, _⟩ := hown j oj s Vj hjn (writer s j oj hs hj hoj hds) hoj hds hVj (alive s hs)
      exact ⟨v, hv1, Vj.to hv2⟩
    · obtain ⟨v, hv1, hv2⟩ := hF.val s τ hl0
      refine ⟨v, ?_, τ.below hv2 hI.below⟩
      rw [hI.out s (fun k ok hk hlk' hok hdk => ?_)]
      · exact hv1
      · have hok' : ops[k]? = some ok := (hl k hk).symm.trans hok
        have hki : k ≠ i := fun h => by subst h; rw [hun] at hlk'; cases hlk'
        by_cases hlt : k < i
        · exact hno k ok hlt hok hdk
        · obtain ⟨ok2, dk, hok2, hdk2, _, _, hothk⟩ := regB_at hB hk
          obtain rfl : ok = ok2 := Option.some.inj (hok'.symm.trans hok2)
          obtain rfl : dk = s := Option.some.inj (hdk2.symm.trans hdk)
          have h1 := ((hothk i o hi ho (Ne.symm hki)).2 hs).2 (by omega)
          obtain ⟨e, he, hb, hon⟩ := wf hok' h1
          have h2 := hcl k ok hok' hlk' e he hb
          rw [hon, hun] at h2
          cases h2
  have hilt : i < listed.size := by rw [hsz]; exact (Array.getElem?_eq_some_iff.1 ho).1
  have hdne : ∀ (j : Nat) (oj : Oper) (dj : Nat), j < n → j ≠ i → l[j]? = some oj → oj.dst = some dj → d ≠ dj := fun j oj dj hj hne hoj hdj h => by
    subst h
    exact (hoth j oj hj ((hl j hj).symm.trans hoj) hne).1 hdj
  -- the step, for whatever blocks S0 were taken over
  have fin : ∀ (S0 : List Nat) (v : Value) (w' : World) (S : List Nat), V.q w' v S → (∀ b ∈ S, b ∈ S0 ∨ w.heap.size ≤ b) → Keeps S0 w w' → (∀ b ∈ S0, w0.heap.size ≤ b) →
      (∀ (j : Nat) (oj : Oper) (dj : Nat), j < n → j ≠ i → listed.getD j false = true → l[j]? = some oj → oj.dst = some dj → Live T (listed.setIfInBounds i true) dj → ∀ b ∈ F j, b ∉ S0) → K (a.put o.dst v) w' := fun S0 v w' S hv hS hk hS0 hj0 => by
    refine hK _ _ ?_
    rw [hd]
    have hbel : Below w0.heap.size w0 w' := ((Keeps.of_below (S := []) hI.below).trans' hk fun x hx => .inr (hS0 x hx)).below
    have back : ∀ s, Live T (listed.setIfInBounds i true) s → Live T listed s := fun s h i' hi' => by
      have := h i' hi'
      by_cases hii : i = i'
      · subst hii; exact hun
      · rwa [getD_set_ne false hii] at this
    have was : ∀ j, i ≠ j → (listed.setIfInBounds i true).getD j false = true → listed.getD j false = true := fun j hij h => by rwa [getD_set_ne false hij] at h
    refine ⟨hbel, hI.defers, by simp only [Act.put]; simpa using hI.size, fun s hs => ?_, fun j => if j = i then S else F j, fun j oj dj Vj hj hlj hoj hdj hVj hlive => ?_, fun j k oj ok dj dk hj hk' hne hlj hlk2 hoj hok hdj hdk hv1 hv2 => ?_⟩
    · have hds : d ≠ s := fun h => hs i o hi (by simp [Array.getD, hilt]) hli (by rw [hd, h])
      simp only [Act.put]
      rw [Array.getElem?_setIfInBounds_ne hds]
      refine hI.out s (fun j oj hj hlj hoj => ?_)
      refine hs j oj hj ?_ hoj
      by_cases hij : i = j
      · subst hij; rw [hun] at hlj; cases hlj
      · rw [getD_set_ne false hij]; exact hlj
    · by_cases hij : i = j
      · subst hij
        obtain rfl : o = oj := Option.some.inj (hli.symm.trans hoj)
        obtain rfl : d = dj := Option.some.inj (hd.symm.trans hdj)
        obtain rfl : V = Vj := Option.some.inj (hV.symm.trans hVj)
        dsimp only
        rw [if_pos rfl]
        refine ⟨v, ?_, hv, fun b hb => ?_⟩
        · simp only [Act.put]
          rw [Array.getElem?_setIfInBounds_self, if_pos (by rw [hI.size]; exact hdN)]
        · rcases hS b hb with h | h
          · exact hS0 b h
          · exact Nat.le_trans hI.below.size h
      · dsimp only
        rw [if_neg (Ne.symm hij)]
        have hlj' := was j hij hlj
        obtain ⟨u, h1, h2, h3⟩ := hown j oj dj Vj hj hlj' hoj hdj hVj (back dj hlive)
        refine ⟨u, ?_, Vj.st h2 hk (hj0 j oj dj hj (Ne.symm hij) hlj' hoj hdj hlive), h3⟩
        simp only [Act.put]
        rw [Array.getElem?_setIfInBounds_ne (hdne j oj dj hj (Ne.symm hij) hoj hdj)]
        exact h1
    · have ltF : ∀ (j : Nat) (oj : Oper) (dj : Nat), j < n → i ≠ j → (listed.setIfInBounds i true).getD j false = true → l[j]? = some oj → oj.dst = some dj → Live T (listed.setIfInBounds i true) dj → ∀ b ∈ F j, b < w.heap.size := fun j oj dj hj hij hlj hoj hdj hv => by
        obtain ⟨Vj, _, hVj, _⟩ := hL.at_ j oj hoj
        obtain ⟨u, _, h2, _⟩ := hown j oj dj Vj hj (was j hij hlj) hoj hdj hVj (back dj hv)
        exact Vj.lt h2
      by_cases hij : i = j
      · subst hij
        dsimp only
        rw [if_pos rfl, if_neg (Ne.symm hne)]
        intro b hb hbk
        rcases hS b hb with h | h
        · exact hj0 k ok dk hk' (Ne.symm hne) (was k hne hlk2) hok hdk hv2 b hbk h
        · have := ltF k ok dk hk' hne hlk2 hok hdk hv2 b hbk
          omega
      · dsimp only
        rw [if_neg (Ne.symm hij)]
        by_cases hik : i = k
        · subst hik
          rw [if_pos rfl]
          intro b hb hbk
          rcases hS b hbk with h | h
          · exact hj0 j oj dj hj (Ne.symm hij) (was j hij hlj) hoj hdj hv1 b hb h
          · have := ltF j oj dj hj hij hlj hoj hdj hv1 b hb
            omega
        · rw [if_neg (Ne.symm hik)]
          exact hdis j k oj ok dj dk hj hk' hne (was j hij hlj) (was k hik hlk2) hoj hok hdj hdk (back dj hv1) (back dk hv2)
  rcases hFa with ⟨hT, hFa⟩ | ⟨s, U, hT, hFa, hU⟩
  · refine hFa.at_work hI.below hsees K Q (fun v w' S hv hS hb => fin [] v w' S hv (fun b hb' => .inr (hS b hb')) (Keeps.of_below hb) (by simp) (fun _ _ _ _ _ _ _ _ _ _ _ => by simp))
  · rcases hU with ⟨j, oj, hj, hoj, hds, hUj⟩ | hU
    · have hjn : j < n := by omega
      have hsl := (takeB_at hTB (takes_mem hT)).2.1 o ho
      have hlj := writer s j oj hsl hj hoj hds
      obtain ⟨v, hv1, hv2, hv3⟩ := hown j oj s U hjn hlj hoj hds hUj (alive s hsl)
      refine hFa.at_work hI.below hsees ⟨v, hv1, hv2⟩ K Q (fun u w' S hu hS hk => fin (F j) u w' S hu hS hk hv3 (fun k ok dk hk' hne hlk2 hok hdk hlive b hb hbj => ?_))
      by_cases hkj : k = j
      · subst hkj
        obtain rfl : oj = ok := Option.some.inj (hoj.symm.trans hok)
        obtain rfl : s = dk := Option.some.inj (hds.symm.trans hdk)
        have := hlive i hT
        simp [Array.getD, hilt] at this
      · refine hdis k j ok oj dk s hk' hjn hkj hlk2 hlj hok hoj hdk hds (fun i' hi' => ?_) (alive s hsl) b hb hbj
        have := hlive i' hi'
        by_cases hii : i = i'
        · subst hii; exact hun
        · rwa [getD_set_ne false hii] at this
    · cases hU
/-- What is each slot's own, at the end. -/
def OwnsAll (l : List Oper) (Vs : List OTy) (T : List (Nat × Nat)) (w0 : World) (a : Act) (w : World) : Prop := ∃ F : Nat → List Nat, (∀ (j : Nat) (oj : Oper) (d : Nat) (V : OTy), l[j]? = some oj → oj.dst = some d → Vs[j]? = some V → (∀ i, (i, d) ∉ T) → ∃ v, a.tmps[d]? = some v ∧ V.q w v (F j) ∧ ∀ b ∈ F j, w0.heap.size ≤ b) ∧
    ∀ (j k : Nat) (oj ok : Oper) (dj dk : Nat), j ≠ k → l[j]? = some oj → l[k]? = some ok → oj.dst = some dj → ok.dst = some dk → (∀ i, (i, dj) ∉ T) → (∀ i, (i, dk) ∉ T) → ∀ b ∈ F j, b ∉ F k
theorem TInvO.all (hTB : takeB N ops n T = true) (hL : LineO P ops w0 T 0 Γ [] l Vs) (hn : n = l.length) (hF : Fr N Γ a0 w0) {listed : Array Bool} {a : Act} {w : World} (hI : TInvO N n l Vs T a0 w0 listed a w) (hall : ∀ i, i < n → listed.getD i false = true) :
    Fr N (hideT T (extO Γ l Vs)) a w ∧ OwnsAll l Vs T w0 a w := by
  have lt : ∀ (j : Nat) (oj : Oper), l[j]? = some oj → j < n := fun j oj h => by rw [hn]; exact (List.getElem?_eq_some_iff.1 h).1
  obtain ⟨F, hown, hdis⟩ := hI.own
  have lv : ∀ s, (∀ i, (i, s) ∉ T) → Live T listed s := fun s hs i hi => absurd (takes_mem hi) (hs i)
  refine ⟨⟨hI.size, hI.defers, fun s τ hs => ?_⟩, F, fun j oj d V hoj hdj hVj hno => hown j oj d V (lt j oj hoj) (hall j (lt j oj hoj)) hoj hdj hVj (lv d hno), fun j k oj ok dj dk hne hoj hok hdj hdk h1 h2 => hdis j k oj ok dj dk (lt j oj hoj) (lt k ok hok) hne (hall j (lt j oj hoj)) (hall k (lt k ok hok)) hoj hok hdj hdk (lv dj h1) (lv dk h2)⟩
  rcases hideT_look hs with ⟨rfl, i, hi⟩ | ⟨hs, hno⟩
  · have hlt : s < a.tmps.size := by
      rw [hI.size]
      exact (takeB_at hTB hi).1.2
    exact ⟨_, Array.getElem?_eq_getElem hlt, trivial⟩
  · rcases hL.ext_look s τ hs with ⟨j, oj, Vj, hoj, hds, hVj, rfl⟩ | ⟨hno', hl0⟩
    · obtain ⟨v, h1, h2, _⟩ := hown j oj s Vj (lt j oj hoj) (hall j (lt j oj hoj)) hoj hds hVj (lv s hno)
      exact ⟨v, h1, Vj.to h2⟩
    · obtain ⟨v, hv1, hv2⟩ := hF.val s τ hl0
      exact ⟨v, by rw [hI.out s (fun j oj _ _ hoj => hno' j oj hoj)]; exact hv1, τ.below hv2 hI.below⟩
end

section
variable {P : Program} {w0 : World} {Γ : Ctx} {N : Nat} {Vs : List OTy} {a0 : Act}
theorem region_own {id : Nat} {Q : Exit → Act → World → Prop} {l : List Oper} {draw : Bool} (n : Nat) (T : List (Nat × Nat)) (hm : P.follows .mixedOrders = true) (hB : (regB l.toArray N n && tailB l.toArray n && takeB N l.toArray n T) = true) (hF : Fr N Γ a0 w0)
    (hL : LineO P l.toArray w0 T 0 Γ [] (l.take n) Vs)
    (hQ : ∀ a w, Fr N (hideT T (extO Γ (l.take n) Vs)) a w → Below w0.heap.size w0 w → OwnsAll (l.take n) Vs T w0 a w → wpList P l.toArray Q (l.drop n) a w) : (Code.region id l.toArray draw).wp P Q a0 w0 := by
  rw [Bool.and_eq_true, Bool.and_eq_true] at hB
  obtain ⟨⟨hB, hT⟩, hTB⟩ := hB
  have hsize : l.toArray.size = l.length := by simp
  have hnl : n ≤ l.toArray.size := by
    unfold tailB at hT
    split at hT
    · rename_i h; simp at h; simp [h]
    · simp only [Bool.and_eq_true, decide_eq_true_eq] at hT; omega
  have hlen : n = (l.take n).length := by simp at hnl ⊢; omega
  have hli : ∀ i, i < n → (l.take n)[i]? = l.toArray[i]? := fun i hi => by simp [hi]
  have hback : ∀ i o, i < n → l.toArray[i]? = some o → ∀ e ∈ o.after, Region.binds .any e = true → e.on < i := fun i o hi ho e he hb => by
    obtain ⟨o', d, ho', _, _, h, _⟩ := regB_at hB hi
    obtain rfl : o = o' := Option.some.inj (ho.symm.trans ho')
    exact h e he hb
  have fin : ∀ (listed : Array Bool) a w, TInvO N n (l.take n) Vs T a0 w0 listed a w → (∀ i, i < n → listed.getD i false = true) → wpList P l.toArray Q (l.drop n) a w := fun listed a w hI hall => by
    obtain ⟨h1, h2⟩ := hI.all hTB hL hlen hF hall
    exact hQ a w h1 hI.below h2
  cases draw with
  | true =>
    have key : ∀ (f : Nat) (listed : Array Bool) (a : Act) (w : World), HeadInv .any l.toArray n listed → wanting n listed = f → TInvO N n (l.take n) Vs T a0 w0 listed a w → wpAny P .any l.toArray Q (f + (l.toArray.size - n)) listed a w := by
      intro f
      induction f with
      | zero =>
        intro listed a w hH h0 hI
        have hall := wanting_zero h0
        have hdl : (l.drop n).length = l.toArray.size - n := by simp
        have e := all_listed hH hall hnl
        have hseq : Region.seqB .any l.toArray (l.toArray.size - n) n listed = true := by
          unfold tailB at hT
          split at hT
          · rename_i h
            have hz : n = l.toArray.size := by simpa using h
            have h2 : l.toArray.size - n = 0 := by omega
            rw [h2]
            simp only [Region.seqB, List.isEmpty_iff]
            unfold Region.ready
            rw [List.filter_eq_nil_iff]
            intro i hi
            have hi' := List.mem_range.1 hi
            have h3 := hall i (by omega)
            have hil : i < listed.size := by rw [hH.size]; exact hi'
            simp [Array.getD, hil] at h3 ⊢
            simp [h3]
          · simp only [Bool.and_eq_true] at hT
            rw [e]; exact hT.2
        have := wpAny_of_seq (md := .any) (Q' := Q) (l.drop n) n listed a w (fun j => by simp [List.getElem?_drop]) (by rw [hdl]; exact hseq) (fin listed a w hI hall)
        rw [Nat.zero_add]
        rwa [hdl] at this
      | succ f ih =>
        intro listed a w hH h0 hI
        rw [show f + 1 + (l.toArray.size - n) = (f + (l.toArray.size - n)) + 1 by omega]
        have hex : ∃ i, i < n ∧ listed.getD i true = false := by
          refine Classical.byContradiction fun hno => ?_
          have hz : wanting n listed = 0 := by
            unfold wanting
            rw [List.length_eq_zero_iff, List.filter_eq_nil_iff]
            intro i hi
            have hi' := List.mem_range.1 hi
            have hl : i < listed.size := by rw [hH.size]; omega
            have h1 : ¬ listed.getD i true = false := fun h => hno ⟨i, hi', h⟩
            simp [Array.getD, hl] at h1 ⊢
            exact h1
          omega
        obtain ⟨i0, hi0, hun0⟩ := hex
        refine ⟨fun hr => ?_, fun i hi => ?_⟩
        · exfalso
          have := ready_head hback hnl hH.size hr i0 hi0
          rw [getD_both hun0] at this
          cases this
        · obtain ⟨h1, o, ho, h2⟩ := mem_ready.1 hi
          have hin : i < n := Nat.lt_of_not_le fun h => by
            have hio := (Array.getElem?_eq_some_iff.1 ho).1
            unfold tailB at hT
            split at hT
            · rename_i h'; simp at h'; omega
            · simp only [Bool.and_eq_true, decide_eq_true_eq] at hT
              exact tail_waits hT.1.1.2 hT.1.2 hT.1.1.1 hH _ i0 rfl hi0 hun0 i h hi
          have hil : i < listed.size := by rw [hH.size]; omega
          have h3 := TInvO.step hB hTB hli hL hF hI hH.size hH.closed hin ho (getD_both h1) h2 (wpAny P .any l.toArray Q (f + (l.toArray.size - n)) (listed.setIfInBounds i true)) Q (fun a' w' hI' => by
            refine ih _ a' w' (hH.set hi hin) ?_ hI'
            have := wanting_set hin hil (getD_both h1)
            omega)
          unfold wpOp
          simp only [ho]
          split
          · rename_i hw
            rw [if_pos hw] at h3
            exact .inl h3
          · rename_i hw
            rw [if_neg hw] at h3
            exact h3
    have inv0 : HeadInv .any l.toArray n (Array.replicate l.toArray.size false) :=
      ⟨by simp, fun j oj _ hl => (by rw [getD_replicate_false] at hl; cases hl), fun t _ ht => getD_in (by simpa using ht) (getD_replicate_false _ _)⟩
    have h0 : wanting n (Array.replicate l.toArray.size false) = n := by
      unfold wanting
      rw [List.filter_eq_self.2 (fun i _ => by rw [getD_replicate_false]; rfl), List.length_range]
    refine wp_region_any hm ?_
    have := key n _ a0 w0.drew inv0 h0 (TInvO.start hF (Below.refl _ _).drew _)
    rw [show n + (l.toArray.size - n) = l.toArray.size by omega] at this
    exact this
  | false =>
    have key : ∀ (f k : Nat) (a : Act) (w : World), k + f = n → TInvO N n (l.take n) Vs T a0 w0 ((List.replicate k true ++ List.replicate (l.toArray.size - k) false).toArray) a w → wpList P l.toArray Q (l.drop k) a w := by
      intro f
      induction f with
      | zero =>
        intro k a w hk hI
        obtain rfl : k = n := by omega
        refine fin _ a w hI (fun i hi => ?_)
        simp [Array.getD, hi]
        omega
      | succ f ih =>
        intro k a w hk hI
        have hkn : k < n := by omega
        have hkl : k < l.length := by omega
        have hdrop : l.drop k = l[k] :: l.drop (k + 1) := by rw [List.drop_eq_getElem_cons hkl]
        have getD_k : ∀ m j, m ≤ l.toArray.size → (List.replicate m true ++ List.replicate (l.toArray.size - m) false).toArray.getD j false = decide (j < m) := fun m j hm => by
          by_cases hj : j < m
          · simp [Array.getD, hj]; omega
          · simp [Array.getD, List.getElem_append, hj]
        have ho : l.toArray[k]? = some l[k] := by simp [hkl]
        have hset : (List.replicate k true ++ List.replicate (l.toArray.size - k) false).toArray.setIfInBounds k true = (List.replicate (k + 1) true ++ List.replicate (l.toArray.size - (k + 1)) false).toArray := by
          apply Array.ext_getElem?
          intro j
          rw [show l.toArray.size - k = (l.toArray.size - (k + 1)) + 1 by omega, List.replicate_succ, List.replicate_succ']
          simp only [List.setIfInBounds_toArray, List.getElem?_toArray, List.append_assoc, List.singleton_append]
          rw [List.set_append_right _ _ (by simp)]
          simp
        rw [hdrop]
        refine wpList_step fun K hK => ?_
        refine TInvO.step hB hTB hli hL hF hI (by simp; omega) (fun j oj hj hl e he hb => ?_) hkn ho (by rw [getD_k k k (by omega)]; simp) (fun e he hb => ?_) K Q (fun a' w' hI' => hK a' w' (ih (k + 1) a' w' (by omega) (by rw [← hset]; exact hI')))
        · rw [getD_k k _ (by omega)] at hl ⊢
          simp only [decide_eq_true_eq] at hl ⊢
          have := hback j oj (by omega) hj e he hb
          omega
        · rw [getD_k k _ (by omega)]
          simp only [decide_eq_true_eq]
          exact hback k _ hkn ho e he hb
    refine wp_region_lit ?_
    have := key n 0 a0 w0 (by omega) (by
      have e : (List.replicate 0 true ++ List.replicate (l.toArray.size - 0) false).toArray = Array.replicate l.toArray.size false := by simp
      rw [e]
      exact TInvO.start hF (Below.refl _ _) _)
    simpa using this
end
/-! ### Lines -/
section
variable {P : Program} {w0 : World} {Γ : Ctx} {o : Oper}
theorem OpO.ex {v : Value} (h : OpOk P w0 Γ o (Ty.ex v)) : OpO P w0 Γ o (OTy.ex v) := fun a w K Q hb hs hK => h a w K Q hb hs fun u w' h1 h2 => hK u w' [] ⟨h1, rfl⟩ (by simp) h2
/-- An operation that lays a row of its own. -/
theorem OpO.new {V : OTy} (h : ∀ (a : Act) (w : World), Below w0.heap.size w0 w → SeesO Γ o a w → ∃ v w' S, V.q w' v S ∧ (∀ b ∈ S, w.heap.size ≤ b) ∧ Below w.heap.size w w' ∧ (execOp a.eval o).run P w = .ok (.value v) w') : OpO P w0 Γ o V := by
  intro a w K Q hb hs hK
  obtain ⟨v, w', S, h1, h2, h3, h4⟩ := h a w hb (sees_of hs)
  unfold Oper.wp
  rw [h4]
  exact hK v w' S h1 h2 h3
theorem cells_len {sz : Nat} : ∀ (vs : List Value), (∀ v ∈ vs, v.cells.size = sz) → ((vs.map fun v => v.cells.toList).flatten).length = vs.length * sz
  | [], _ => by simp
  | v :: vs, hv => by
    have h1 := hv v (by simp)
    rw [List.map_cons, List.flatten_cons, List.length_append, cells_len vs (fun u hu => hv u (by simp [hu])), List.length_cons, Nat.add_mul]
    simp [h1]
    omega
/-- A slice written out, of the call's own. -/
theorem oBuild {t e : TypeId} {z : Value} {sz bytes : Nat} {n : Nat} {parts : Array (Nat × Operand)} {vs : List Value} (ho : o.op = .buildSlice t n parts) (hp : ∀ (a : Act) (w : World), SeesO Γ o a w → (parts.map fun (i, x) => (i, a.eval x)) = (vs.zipIdx.map fun p => (p.2, p.1)).toArray)
    (hu : P.underlying t = some (.slice e)) (hi : (P.info? e).map (fun i => (i.zero, i.size, i.bytes)) = some (some z, sz, bytes)) (hn : vs.length = n) (hv : ∀ v ∈ vs, v.cells.size = sz) (hbig : n * sz ≤ 16777216) (hm : n ≤ maxLen) :
    OpO P w0 Γ o (OTy.seg w0 e sz n (vs.map fun v => v.cells.toList).flatten) :=
  .new fun a w hb hs => by
    have hr := run_buildSlice (P := P) n vs hu hi hn hv hbig w
    have hl : ((vs.map fun v => v.cells.toList).flatten).length = n * sz := by
      rw [cells_len vs hv, hn]
    refine ⟨.slice (some ⟨w.heap.size, 0, none⟩) n n, w.alloc (.cells (vs.map fun v => v.cells.toList).flatten.toArray e), [w.heap.size], ⟨?_, fun y hy => ?_⟩, fun y hy => ?_, ((Keeps.refl [] w).alloc _).below, ?_⟩
    · have h := Seg.ofBlk (w := w.alloc (.cells (vs.map fun v => v.cells.toList).flatten.toArray e)) (sz := sz) (cap := n) (Blk.new w e (vs.map fun v => v.cells.toList).flatten.toArray) (by simpa using hl) hm
      simpa using h
    · simp only [List.mem_singleton] at hy
      subst hy
      exact hb.size
    · simp only [List.mem_singleton] at hy
      omega
    · unfold execOp
      simp only [ho]
      rw [hp a w hs, Sem.run_bind, hr]
      rfl
theorem oBuild0 {t e : TypeId} {z : Value} {sz bytes : Nat} (ho : o.op = .buildSlice t 0 #[]) (hu : P.underlying t = some (.slice e)) (hi : (P.info? e).map (fun i => (i.zero, i.size, i.bytes)) = some (some z, sz, bytes)) : OpO P w0 Γ o (OTy.seg w0 e sz 0 []) := by
  have h := oBuild (P := P) (w0 := w0) (Γ := Γ) (vs := []) ho parts0 hu hi rfl (by simp) (by omega) (by simp [maxLen])
  simpa using h
theorem oAlloc {t : TypeId} {z : Array Value} (ho : o.op = .alloc t) (hz : ∀ w : World, (Instr.alloc t true (.tuple #[])).run P w = .ok (.pointer (some ⟨w.heap.size, 0, none⟩)) (w.alloc (.cells z t))) : OpO P w0 Γ o (OTy.var w0 t z) :=
  .new fun a w hb _ => ⟨_, _, [w.heap.size], ⟨w.heap.size, rfl, rfl, hb.size, Blk.new w _ _⟩, fun b hb' => by simp only [List.mem_singleton] at hb'; omega, ((Keeps.refl [] w).alloc _).below, by unfold execOp; simp [ho, hz]⟩
/-- append to a row of the call's own, which is taken over. -/
theorem tkAppend {s : Nat} {x : Operand} {t e : TypeId} {z : Value} {sz bytes n m : Nat} {xs news : List Value} {τ : Ty} (ho : o.op = .call { callee := .builtin .append, args := #[.tmp s, x], argTypes := #[t, t] }) (ht : P.underlying t = some (.slice e)) (hi : (P.info? e).map (fun i => (i.zero, i.size, i.bytes)) = some (some z, sz, bytes)) (hzs : z.cells.size = sz)
    (hx : Has w0 Γ x τ) (hτ : ∀ {w : World} u, τ.p w u → ∃ A c, u = .slice A m c ∧ (A = none → m = 0) ∧ Rd w A news) (hl : news.length = m * sz) (h1 : ∀ u ∈ news, u.oneCell' = true) (h63 : n + m ≤ maxLen) (hbytes : (n + m) * bytes ≤ 140737488355328) :
    OpTk P w0 Γ o (OTy.seg w0 e sz n xs) (OTy.seg w0 e sz (n + m) (xs ++ news)) s := fun a w S0 K Q hb hs ⟨v, hv1, hv2, hv3⟩ hK => by
  obtain ⟨u, hu1, hu2⟩ := hx.see (sees_of hs) (by simp [ho, Op.operands, Call.operands]) hb
  obtain ⟨A, c, rfl, hA, hr⟩ := hτ u hu2
  refine wp_append_seg w (.tmp s) x t ho e z sz bytes ht hi hzs v n xs S0 (by simp [Act.eval, Array.getD_eq_getD_getElem?, hv1]) hv2 A m c news hu1 hl hr hA h1 h63 hbytes fun v' w' S' h2 h3 h4 => ?_
  refine hK v' w' S' ⟨h2, fun y hy => ?_⟩ (fun y hy => ?_) h3
  · rcases h4 with rfl | rfl
    · exact hv3 y hy
    · simp only [List.mem_singleton] at hy
      subst hy
      exact hb.size
  · rcases h4 with rfl | rfl
    · exact .inl hy
    · simp only [List.mem_singleton] at hy
      subst hy
      exact .inr (Nat.le_refl _)
/-- s[:k], s[k:] of a slice that is a letter. -/
theorem cSliceHiA {t e : TypeId} {x hi : Operand} {A : Option Addr} {n c k sz : Nat} {kd : IntKind} (ho : o.op = .slice t x none (some hi) none) (hx : OpT Γ x (Ty.ex (.slice A n c))) (hl : OpT Γ hi (Ty.ex (.int kd (k : Int)))) (hu : P.underlying t = some (.slice e)) (hz : (P.info? e).map (·.size) = some sz) (hk : k ≤ n) (hn : n ≤ c) (hA : A = none → c = 0) : OpOk P w0 Γ o (Ty.ex (.slice A k c)) :=
  .val fun a w _ hs => by
    obtain ⟨v, h1, h2⟩ := hs x _ (by simp [ho, Op.operands]) hx
    obtain ⟨i, h6, h7⟩ := hs hi _ (by simp [ho, Op.operands]) hl
    have h2 : v = .slice A n c := h2
    have h7 : i = .int kd (k : Int) := h7
    obtain ⟨inf, hinf, hsz⟩ := Option.map_eq_some_iff.1 hz
    refine ⟨_, rfl, ?_⟩
    unfold execOp
    have hkc : k ≤ c := by omega
    by_cases hc0 : c = 0
    · subst hc0
      obtain rfl : k = 0 := by omega
      simp [ho, h1, h2, h6, h7, Instr.sliceAt, Instr.slice, Instr.sliceBounds, Instr.sliceBound, asIntOf, run_underlying hu, sizeOf, typeInfo, hinf]
    · cases A with
      | none => exact absurd (hA rfl) hc0
      | some ad => simp [ho, h1, h2, h6, h7, Instr.sliceAt, Instr.slice, Instr.sliceBounds, Instr.sliceBound, asIntOf, run_underlying hu, sizeOf, typeInfo, hinf, hkc, Addr.add]
theorem cSliceLoA {t e : TypeId} {x lo : Operand} {A : Option Addr} {n c k sz : Nat} {kd : IntKind} (ho : o.op = .slice t x (some lo) none none) (hx : OpT Γ x (Ty.ex (.slice A n c))) (hl : OpT Γ lo (Ty.ex (.int kd (k : Int)))) (hu : P.underlying t = some (.slice e)) (hz : (P.info? e).map (·.size) = some sz) (hk : k ≤ n) : OpOk P w0 Γ o (Ty.ex (.slice (if c = k then A else A.map (·.add (k * sz))) (n - k) (c - k))) :=
  .val fun a w _ hs => by
    obtain ⟨v, h1, h2⟩ := hs x _ (by simp [ho, Op.operands]) hx
    obtain ⟨i, h6, h7⟩ := hs lo _ (by simp [ho, Op.operands]) hl
    have h2 : v = .slice A n c := h2
    have h7 : i = .int kd (k : Int) := h7
    obtain ⟨inf, hinf, hsz⟩ := Option.map_eq_some_iff.1 hz
    refine ⟨_, rfl, ?_⟩
    unfold execOp
    simp [ho, h1, h2, h6, h7, Instr.sliceAt, Instr.slice, Instr.sliceBounds, Instr.sliceBound, asIntOf, run_underlying hu, sizeOf, typeInfo, hinf, hsz, hk]
end
/-- What hangs on blocks of another type. -/
theorem Ty.far (τ : Ty) {w w' : World} {v : Value} {g : Nat} {t : TypeId} {cs : Array Value} (h : τ.p w v) (k : Keeps [g] w w') (hb : Blk w g t cs) (he : τ.el t = false) : τ.p w' v := τ.st h k fun b hb' _ => by
  simp only [List.mem_singleton] at hb'
  subst hb'
  exact ⟨cs, t, (0, 0), hb, he⟩
/-- A slot's value under the letter that it is known by. -/
theorem Fr.letter {N : Nat} {Γ : Ctx} {a : Act} {w : World} (h : Fr N Γ a w) {s : Nat} {v : Value} (hs : a.tmps[s]? = some v) : Fr N ((s, Ty.ex v) :: Γ) a w := by
  refine ⟨h.size, h.defers, fun s' τ' hs' => ?_⟩
  by_cases hss : s = s'
  · subst hss
    rw [look_same] at hs'
    injection hs' with hs'
    subst hs'
    exact ⟨v, hs, rfl⟩
  · rw [look_ne _ _ hss] at hs'
    exact h.val s' τ' hs'
theorem SlP.form {w : World} {e : TypeId} {v : Value} {n : Nat} {xs : List Value} (h : SlP w e v n xs) : ∃ A c, v = .slice A n c ∧ n ≤ c ∧ c ≤ maxLen ∧ (A = none → c = 0) := by
  obtain ⟨A, c, h1, h2, h3, h4, _⟩ := h
  exact ⟨A, c, h1, h2, h3, fun e => (h4 e).2⟩
theorem SlP.takeA {w : World} {e : TypeId} {A : Option Addr} {n c : Nat} {xs : List Value} (h : SlP w e (.slice A n c) n xs) {k : Nat} (hk : k ≤ n) (m : Nat) : SlP w e (.slice A k c) k (xs.take m) := by
  obtain ⟨A', c', h1, h2, h3, h4, h5⟩ := h
  injection h1 with h1 _ h6
  subst h1 h6
  refine ⟨A, c, rfl, by omega, h3, fun h => ⟨by have := (h4 h).2; omega, (h4 h).2⟩, fun j u hu => ?_⟩
  rw [List.getElem?_take] at hu
  split at hu
  · exact h5 j u hu
  · cases hu
theorem SlP.dropA {w : World} {e : TypeId} {A : Option Addr} {n c sz : Nat} {xs : List Value} (h : SlP w e (.slice A n c) n xs) {k : Nat} (hk : k ≤ n) (hxl : xs.length = n * sz) : SlP w e (.slice (if c = k then A else A.map (·.add (k * sz))) (n - k) (c - k)) (n - k) (xs.drop (k * sz)) := by
  obtain ⟨A', c', h1, h2, h3, h4, h5⟩ := h
  injection h1 with h1 _ h6
  subst h1 h6
  refine ⟨_, c - k, rfl, by omega, by omega, fun h => ?_, fun j u hu => ?_⟩
  · split at h
    · have := h4 h; omega
    · have := h4 (by simpa using h); omega
  · rw [List.getElem?_drop] at hu
    obtain ⟨g, off, cs, fr, rfl, h8, h9⟩ := h5 _ u hu
    have hj : k * sz + j < n * sz := by rw [← hxl]; exact (List.getElem?_eq_some_iff.1 hu).1
    have hne : c ≠ k := fun h => by
      subst h
      have : n = c := by omega
      subst this
      omega
    rw [if_neg hne]
    exact ⟨g, off + k * sz, cs, fr, by simp [Addr.add_lit], h8, by rw [Nat.add_assoc]; exact h9⟩
/-- The address of an element of a slice that is a letter. -/
theorem SlP.elem {w : World} {e : TypeId} {A : Option Addr} {n c : Nat} {xs : List Value} (h : SlP w e (.slice A n c) n xs) {k : Nat} (hk : k < xs.length) : ∃ g off, A = some ⟨g, off, none⟩ ∧ ∀ m, (Ty.at_ e (xs.drop m)).p w (.pointer (some ⟨g, off + m, none⟩)) := by
  obtain ⟨A', c', h1, h2, h3, h4, h5⟩ := h
  injection h1 with h1 _ h6
  subst h1 h6
  obtain ⟨g, off, cs, fr, rfl, h7, h8⟩ := h5 k _ (List.getElem?_eq_getElem hk)
  refine ⟨g, off, rfl, fun m => ⟨g, off + m, cs, fr, rfl, h7, fun j u hu => ?_⟩⟩
  rw [List.getElem?_drop] at hu
  obtain ⟨g', off', cs', fr', e1, h9, h10⟩ := h5 _ u hu
  injection e1 with e1
  injection e1 with e1 e2
  subst e1 e2
  rw [h7] at h9
  injection h9 with h9
  injection h9 with h9
  subst h9
  rw [Nat.add_assoc]
  exact h10
end Go.Proofs.YtgmeagkolahkoaaDoor

/- Regions by types: one store over a variable of the call's own that may come at whatever place of the order. -/
namespace Go.Proofs.YtgmeagkolahkoaaDoor
open Go.RowKit

theorem size_setC (b : Nat) : ∀ (vs : List Value) (o : Nat) (w : World), (w.setCells b o vs).heap.size = w.heap.size
  | [], _, _ => rfl
  | v :: vs, o, w => by
    rw [World.setCells, size_setC b vs]
    simp
/-- Lines that hold whether the store has been or not; the store itself, the p-th. -/
inductive LineW (P : Program) (ops : Array Oper) (w0 w1 : World) (t : TypeId) (g : Nat) (v : Value) (p : Nat) : Nat → Ctx → List Oper → List Ty → Prop
  | nil {i : Nat} {Γ : Ctx} : LineW P ops w0 w1 t g v p i Γ [] []
  | cons {i : Nat} {Γ : Ctx} {d : Nat} {o : Oper} {V : Ty} {os : List Oper} {Vs : List Ty} (hi : Nat.beq i p = false) (hd : o.dst = some d) (h0 : Fact P ops w0 Γ o V) (h1 : Fact P ops w1 Γ o V) (he : V.el t = false) (tl : LineW P ops w0 w1 t g v p (i + 1) ((d, V) :: Γ) os Vs) : LineW P ops w0 w1 t g v p i Γ (o :: os) (V :: Vs)
  | store {i : Nat} {Γ : Ctx} {o : Oper} {os : List Oper} {Vs : List Ty} {ty : TypeId} {x s : Nat} (hi : Nat.beq i p = true) (hd : o.dst = none) (hg : o.guard = none) (ho : o.op = .store ty (.tmp x) (.tmp s)) (hx : look Γ x = some (Ty.ex (.pointer (some ⟨g, 0, none⟩)))) (hs : look Γ s = some (Ty.ex v)) (hz : (P.info? ty).map (·.size) = some v.cells.size) (tl : LineW P ops w0 w1 t g v p (i + 1) Γ os Vs) : LineW P ops w0 w1 t g v p i Γ (o :: os) (Ty.any :: Vs)
def extW : Ctx → List Oper → List Ty → Ctx
  | Γ, o :: os, V :: Vs => match o.dst with | some d => extW ((d, V) :: Γ) os Vs | none => extW Γ os Vs
  | Γ, _, _ => Γ
def regW (ops : Array Oper) (N n p : Nat) : Bool := decide (p < n) && (List.range n).all fun i => match ops[i]? with
  | none => false
  | some o => if i == p then (o.after.all fun e => !Region.binds .any e || decide (e.on < i)) && o.dst.isNone &&
      (List.range n).all fun j => match ops[j]? with
        | none => false
        | some oj => (match oj.dst with | none => true | some d => !(o.looksAt ops).contains d || (if decide (j < i) then Region.waitsFor .any ops i j else Region.waitsFor .any ops j i))
    else okAt ops N n i o
section
variable {ops : Array Oper} {N n p : Nat}
theorem regW_at {i : Nat} (h : regW ops N n p = true) (hi : i < n) (hp : i ≠ p) : ∃ o d, ops[i]? = some o ∧ o.dst = some d ∧ d < N ∧ (∀ e ∈ o.after, Region.binds .any e = true → e.on < i) ∧
    ∀ (j : Nat) (oj : Oper), j < n → ops[j]? = some oj → j ≠ i → oj.dst ≠ some d ∧ (d ∈ oj.looksAt ops → (i < j → Region.waitsFor .any ops j i = true) ∧ (j < i → Region.waitsFor .any ops i j = true)) := by
  unfold regW at h
  rw [Bool.and_eq_true] at h
  have h1 := List.all_eq_true.1 h.2 i (List.mem_range.2 hi)
  cases ho : ops[i]? with
  | none => rw [ho] at h1; cases h1
  | some o =>
    rw [ho] at h1
    have hip : (i == p) = false := by simpa using hp
    simp only [hip, Bool.false_eq_true, if_false] at h1
    simp only [okAt, Bool.and_eq_true] at h1
    obtain ⟨h2, h3⟩ := h1
    cases hd : o.dst with
    | none => rw [hd] at h3; cases h3
    | some d =>
      rw [hd] at h3
      simp only [Bool.and_eq_true, decide_eq_true_eq] at h3
      refine ⟨o, d, rfl, hd, h3.1, fun e he hb => ?_, fun j oj hj hoj hne => ?_⟩
      · simp only [Array.all_eq_true_iff_forall_mem] at h2
        have := h2 e he
        simp [hb] at this
        exact this
      · have h4 := List.all_eq_true.1 h3.2 j (List.mem_range.2 hj)
        rw [hoj] at h4
        simp only [Bool.or_eq_true, Bool.and_eq_true, beq_iff_eq, bne_iff_ne, ne_eq, Bool.not_eq_true', hne, false_or] at h4
        refine ⟨h4.1, fun hm => ?_⟩
        have h5 := h4.2
        have h6 : ((oj.looksAt ops).contains d) = true := by simpa using hm
        rw [h6] at h5
        simp only [Bool.true_eq_false, false_or] at h5
        refine ⟨fun hlt => ?_, fun hlt => ?_⟩
        · rwa [if_pos (by simpa using hlt)] at h5
        · rwa [if_neg (by simp; omega)] at h5
theorem regW_p (h : regW ops N n p = true) : p < n ∧ ∃ o, ops[p]? = some o ∧ o.dst = none ∧ (∀ e ∈ o.after, Region.binds .any e = true → e.on < p) := by
  unfold regW at h
  rw [Bool.and_eq_true, decide_eq_true_eq] at h
  refine ⟨h.1, ?_⟩
  have h1 := List.all_eq_true.1 h.2 p (List.mem_range.2 h.1)
  cases ho : ops[p]? with
  | none => rw [ho] at h1; cases h1
  | some o =>
    rw [ho] at h1
    simp only [beq_self_eq_true, if_true, Bool.and_eq_true, Option.isNone_iff_eq_none] at h1
    refine ⟨o, rfl, h1.1.2, fun e he hb => ?_⟩
    have h2 := h1.1.1
    simp only [Array.all_eq_true_iff_forall_mem] at h2
    have := h2 e he
    simp [hb] at this
    exact this
theorem regW_back (h : regW ops N n p = true) : ∀ i o, i < n → ops[i]? = some o → ∀ e ∈ o.after, Region.binds .any e = true → e.on < i := fun i o hi ho e he hb => by
  by_cases hip : i = p
  · subst hip
    obtain ⟨_, o', ho', _, h2⟩ := regW_p h
    obtain rfl : o = o' := Option.some.inj (ho.symm.trans ho')
    exact h2 e he hb
  · obtain ⟨o', d, ho', _, _, h2, _⟩ := regW_at h hi hip
    obtain rfl : o = o' := Option.some.inj (ho.symm.trans ho')
    exact h2 e he hb
end
section
variable {P : Program} {ops : Array Oper} {w0 w1 : World} {t : TypeId} {g : Nat} {v : Value} {p : Nat} {Γ : Ctx}
/-- What the lines say of the i-th. -/
theorem LineW.at_ {m : Nat} {l : List Oper} {Vs : List Ty} (h : LineW P ops w0 w1 t g v p m Γ l Vs) : ∀ (i : Nat) (o : Oper), l[i]? = some o → ∃ V Γi, Vs[i]? = some V ∧
    (m + i ≠ p ∧ o.dst ≠ none ∧ V.el t = false ∧ Fact P ops w0 Γi o V ∧ Fact P ops w1 Γi o V ∨ m + i = p ∧ o.dst = none ∧ o.guard = none ∧ ∃ ty x s, o.op = .store ty (.tmp x) (.tmp s) ∧ look Γi x = some (Ty.ex (.pointer (some ⟨g, 0, none⟩))) ∧ look Γi s = some (Ty.ex v) ∧ (P.info? ty).map (·.size) = some v.cells.size) ∧
    ∀ (s : Nat) (τ : Ty), look Γi s = some τ → (∃ (j : Nat) (oj : Oper), j < i ∧ l[j]? = some oj ∧ oj.dst = some s ∧ Vs[j]? = some τ) ∨ ((∀ (j : Nat) (oj : Oper), j < i → l[j]? = some oj → oj.dst ≠ some s) ∧ look Γ s = some τ) := by
  induction h with
  | nil => intro i o h; simp at h
  | @cons m Γ d o V os Vs hi hd h0 h1 he tl ih =>
    intro i o' ho'
    cases i with
    | zero =>
      simp only [List.getElem?_cons_zero, Option.some.injEq] at ho'
      subst ho'
      exact ⟨V, Γ, rfl, .inl ⟨by simpa using fun e => by rw [e] at hi; simp at hi, by rw [hd]; simp, he, h0, h1⟩, fun s τ hl => .inr ⟨fun j oj hj => absurd hj (Nat.not_lt_zero _), hl⟩⟩
    | succ i =>
      simp only [List.getElem?_cons_succ] at ho'
      obtain ⟨V', Γi, k1, k2, k3⟩ := ih i o' ho'
      refine ⟨V', Γi, by simpa using k1, by rw [show m + (i + 1) = m + 1 + i by omega]; exact k2, fun s τ hl => ?_⟩
      rcases k3 s τ hl with ⟨j, oj, hj, hoj, hds, hVj⟩ | ⟨hno, hlk⟩
      · exact .inl ⟨j + 1, oj, by omega, by simpa using hoj, hds, by simpa using hVj⟩
      · by_cases hds : d = s
        · subst hds
          rw [look_same] at hlk
          injection hlk with hlk
          subst hlk
          exact .inl ⟨0, o, by omega, rfl, hd, rfl⟩
        · rw [look_ne _ _ hds] at hlk
          refine .inr ⟨fun j oj hj hoj => ?_, hlk⟩
          cases j with
          | zero =>
            simp only [List.getElem?_cons_zero, Option.some.injEq] at hoj
            subst hoj
            rw [hd]
            simpa using hds
          | succ j => exact hno j oj (by omega) (by simpa using hoj)
  | @store m Γ o os Vs ty x s hi hd hg ho hx hs hz tl ih =>
    intro i o' ho'
    cases i with
    | zero =>
      simp only [List.getElem?_cons_zero, Option.some.injEq] at ho'
      subst ho'
      exact ⟨Ty.any, Γ, rfl, .inr ⟨Nat.eq_of_beq_eq_true hi, hd, hg, ty, x, s, ho, hx, hs, hz⟩, fun s τ hl => .inr ⟨fun j oj hj => absurd hj (Nat.not_lt_zero _), hl⟩⟩
    | succ i =>
      simp only [List.getElem?_cons_succ] at ho'
      obtain ⟨V', Γi, k1, k2, k3⟩ := ih i o' ho'
      refine ⟨V', Γi, by simpa using k1, by rw [show m + (i + 1) = m + 1 + i by omega]; exact k2, fun s τ hl => ?_⟩
      rcases k3 s τ hl with ⟨j, oj, hj, hoj, hds, hVj⟩ | ⟨hno, hlk⟩
      · exact .inl ⟨j + 1, oj, by omega, by simpa using hoj, hds, by simpa using hVj⟩
      · refine .inr ⟨fun j oj hj hoj => ?_, hlk⟩
        cases j with
        | zero =>
          simp only [List.getElem?_cons_zero, Option.some.injEq] at hoj
          subst hoj
          rw [hd]
          simp
        | succ j => exact hno j oj (by omega) (by simpa using hoj)
theorem LineW.ext_look {m : Nat} {l : List Oper} {Vs : List Ty} (h : LineW P ops w0 w1 t g v p m Γ l Vs) : ∀ (s : Nat) (τ : Ty), look (extW Γ l Vs) s = some τ →
    (∃ (j : Nat) (oj : Oper), l[j]? = some oj ∧ oj.dst = some s ∧ Vs[j]? = some τ) ∨ ((∀ (j : Nat) (oj : Oper), l[j]? = some oj → oj.dst ≠ some s) ∧ look Γ s = some τ) := by
  induction h with
  | nil => intro s τ hl; exact .inr ⟨fun j oj h => by simp at h, hl⟩
  | @cons m Γ d o V os Vs hi hd h0 h1 he tl ih =>
    intro s τ hl
    have e : extW Γ (o :: os) (V :: Vs) = extW ((d, V) :: Γ) os Vs := by simp [extW, hd]
    rw [e] at hl
    rcases ih s τ hl with ⟨j, oj, hoj, hds, hVj⟩ | ⟨hno, hlk⟩
    · exact .inl ⟨j + 1, oj, by simpa using hoj, hds, by simpa using hVj⟩
    · by_cases hds : d = s
      · subst hds
        rw [look_same] at hlk
        injection hlk with hlk
        subst hlk
        exact .inl ⟨0, o, rfl, hd, rfl⟩
      · rw [look_ne _ _ hds] at hlk
        refine .inr ⟨fun j oj hoj => ?_, hlk⟩
        cases j with
        | zero =>
          simp only [List.getElem?_cons_zero, Option.some.injEq] at hoj
          subst hoj
          rw [hd]
          simpa using hds
        | succ j => exact hno j oj (by simpa using hoj)
  | @store m Γ o os Vs ty x s hi hd hg ho hx hs hz tl ih =>
    intro s' τ hl
    have e : extW Γ (o :: os) (Ty.any :: Vs) = extW Γ os Vs := by simp [extW, hd]
    rw [e] at hl
    rcases ih s' τ hl with ⟨j, oj, hoj, hds, hVj⟩ | ⟨hno, hlk⟩
    · exact .inl ⟨j + 1, oj, by simpa using hoj, hds, by simpa using hVj⟩
    · refine .inr ⟨fun j oj hoj => ?_, hlk⟩
      cases j with
      | zero =>
        simp only [List.getElem?_cons_zero, Option.some.injEq] at hoj
        subst hoj
        rw [hd]
        simp
      | succ j => exact hno j oj (by simpa using hoj)
end
/-- Of the operations that are listed. -/
structure TInvW (N n p : Nat) (l : List Oper) (Vs : List Ty) (a0 : Act) (w0 w1 : World) (listed : Array Bool) (a : Act) (w : World) : Prop where
  below : Below w0.heap.size (if listed.getD p false then w1 else w0) w
  defers : a.defers = []
  size : a.tmps.size = N
  out : ∀ s, (∀ (j : Nat) (oj : Oper), j < n → listed.getD j false = true → l[j]? = some oj → oj.dst ≠ some s) → a.tmps[s]? = a0.tmps[s]?
  vals : ∀ (j : Nat) (oj : Oper) (d : Nat) (V : Ty), j < n → listed.getD j false = true → l[j]? = some oj → oj.dst = some d → Vs[j]? = some V → ∃ v, a.tmps[d]? = some v ∧ V.p w v

section
variable {P : Program} {w0 w1 : World} {t : TypeId} {g : Nat} {v : Value} {Γ : Ctx} {N n p : Nat} {l : List Oper} {Vs : List Ty} {a0 : Act} {ops : Array Oper} {cs : Array Value}
theorem TInvW.start (hF : Fr N Γ a0 w0) {w : World} (hb : Below w0.heap.size w0 w) (m : Nat) : TInvW N n p l Vs a0 w0 w1 (Array.replicate m false) a0 w :=
  ⟨by rw [getD_replicate_false, if_neg (by simp)]; exact hb, hF.defers, hF.size, fun _ _ => rfl, fun j _ _ _ _ h => (by rw [getD_replicate_false] at h; cases h)⟩
/-- What holds of Γ's slots while the region is under way. -/
theorem TInvW.old (hF : Fr N Γ a0 w0) (hΓ : Γ.free t = true) (hblk : Blk w0 g t cs) (hw1 : w1 = w0.setCells g 0 v.cells.toList) {listed : Array Bool} {a : Act} {w : World} (hI : TInvW N n p l Vs a0 w0 w1 listed a w) {s : Nat} {τ : Ty} (hs : look Γ s = some τ) : ∃ u, a0.tmps[s]? = some u ∧ τ.p w u := by
  obtain ⟨u, h1, h2⟩ := hF.val s τ hs
  refine ⟨u, h1, ?_⟩
  have hk : Keeps [g] w0 w1 := by rw [hw1]; exact Keeps.setCells (.inl (by simp)) _ _ (Keeps.refl _ _)
  have hsz : w1.heap.size = w0.heap.size := by rw [hw1]; exact size_setC _ _ _ _
  have hbl := hI.below
  by_cases hd : listed.getD p false = true
  · rw [if_pos hd] at hbl
    exact τ.below (τ.far h2 hk hblk (Ctx.free_look hΓ hs)) (by rw [hsz]; exact hbl)
  · rw [if_neg hd] at hbl
    exact τ.below h2 hbl
theorem TInvW.step (hB : regW ops N n p = true) (hl : ∀ i, i < n → l[i]? = ops[i]?) (hL : LineW P ops w0 w1 t g v p 0 Γ l Vs) (hF : Fr N Γ a0 w0) (hΓ : Γ.free t = true) (hblk : Blk w0 g t cs) (hcs : v.cells.size = cs.size) (hone : v.cells.all (·.oneCell') = true) (hw1 : w1 = w0.setCells g 0 v.cells.toList) {listed : Array Bool} {a : Act} {w : World} (hI : TInvW N n p l Vs a0 w0 w1 listed a w)
    (hsz : listed.size = ops.size) (hcl : ∀ (j : Nat) (oj : Oper), ops[j]? = some oj → listed.getD j false = true → ∀ e ∈ oj.after, Region.binds .any e = true → listed.getD e.on false = true)
    {i : Nat} {o : Oper} (hi : i < n) (ho : ops[i]? = some o) (hun : listed.getD i false = false) (hdep : ∀ e ∈ o.after, Region.binds .any e = true → listed.getD e.on false = true) (K : Act → World → Prop) (Q : Exit → Act → World → Prop)
    (hK : ∀ a' w', TInvW N n p l Vs a0 w0 w1 (listed.setIfInBounds i true) a' w' → K a' w') :
    if Region.wanted o (yielded ops a.tmps) then o.wp P a w K Q else K (a.put o.dst undef) w := by
  have hli : l[i]? = some o := (hl i hi).trans ho
  obtain ⟨V, Γi, hV, hFa, hlk⟩ := hL.at_ i o hli
  rw [Nat.zero_add] at hFa
  have hk01 : Keeps [g] w0 w1 := by rw [hw1]; exact Keeps.setCells (.inl (by simp)) _ _ (Keeps.refl _ _)
  have hsz1 : w1.heap.size = w0.heap.size := by rw [hw1]; exact size_setC _ _ _ _
  have hblk1 : Blk w1 g t v.cells := by
    have h := hblk.setCells v.cells.toList 0
    rw [splice_all _ _ (by simpa using hcs)] at h
    rw [hw1]
    simpa using h
  have hilt : i < listed.size := by rw [hsz]; exact (Array.getElem?_eq_some_iff.1 ho).1
  have wf : ∀ {p q : Nat} {op : Oper}, ops[p]? = some op → Region.waitsFor .any ops p q = true → ∃ e ∈ op.after, Region.binds .any e = true ∧ e.on = q := fun {p q op} hp hw => by
    obtain ⟨oj, hoj, e, he, hb, hon⟩ := Region.waitsFor_spec hw
    obtain rfl : op = oj := Option.some.inj (hp.symm.trans hoj)
    exact ⟨e, he, hb, hon⟩
  have hsees : Sees ops Γi o a w := by
    intro s τ hs hls
    rcases hlk s τ hls with ⟨j, oj, hj, hoj, hds, hVj⟩ | ⟨hno, hl0⟩
    · have hjn : j < n := by omega
      have hoj' : ops[j]? = some oj := (hl j hjn).symm.trans hoj
      have hjp : j ≠ p := fun h => by
        subst h
        obtain ⟨_, o', ho', hn', _⟩ := regW_p hB
        obtain rfl : oj = o' := Option.some.inj (hoj'.symm.trans ho')
        rw [hn'] at hds; cases hds
      obtain ⟨oj2, dj, hoj2, hdj, _, _, hothj⟩ := regW_at hB hjn hjp
      obtain rfl : oj = oj2 := Option.some.inj (hoj'.symm.trans hoj2)
      obtain rfl : dj = s := Option.some.inj (hdj.symm.trans hds)
      have h1 := ((hothj i o hi ho (by omega)).2 hs).1 hj
      obtain ⟨e, he, hb, hon⟩ := wf ho h1
      have h2 := hdep e he hb
      rw [hon] at h2
      exact hI.vals j oj dj τ hjn h2 hoj hdj hVj
    · obtain ⟨u, hu1, hu2⟩ := hI.old hF hΓ hblk hw1 hl0
      refine ⟨u, ?_, hu2⟩
      rw [hI.out s (fun k ok hk hlk' hok hdk => ?_)]
      · exact hu1
      · have hok' : ops[k]? = some ok := (hl k hk).symm.trans hok
        have hki : k ≠ i := fun h => by subst h; rw [hun] at hlk'; cases hlk'
        have hkp : k ≠ p := fun h => by
          subst h
          obtain ⟨_, o', ho', hn', _⟩ := regW_p hB
          obtain rfl : ok = o' := Option.some.inj (hok'.symm.trans ho')
          rw [hn'] at hdk; cases hdk
        by_cases hlt : k < i
        · exact hno k ok hlt hok hdk
        · obtain ⟨ok2, dk, hok2, hdk2, _, _, hothk⟩ := regW_at hB hk hkp
          obtain rfl : ok = ok2 := Option.some.inj (hok'.symm.trans hok2)
          obtain rfl : dk = s := Option.some.inj (hdk2.symm.trans hdk)
          have h1 := ((hothk i o hi ho (Ne.symm hki)).2 hs).2 (by omega)
          obtain ⟨e, he, hb, hon⟩ := wf hok' h1
          have h2 := hcl k ok hok' hlk' e he hb
          rw [hon, hun] at h2
          cases h2
  rcases hFa with ⟨hip, hdn, hel, hF0, hF1⟩ | ⟨hip, hdn, hg, ty, x, s, hop, hx, hs, hz⟩
  · obtain ⟨o', d, ho', hd, hdN, _, hoth⟩ := regW_at hB hi hip
    obtain rfl : o = o' := Option.some.inj (ho.symm.trans ho')
    have hdne : ∀ (j : Nat) (oj : Oper) (dj : Nat), j < n → j ≠ i → l[j]? = some oj → oj.dst = some dj → d ≠ dj := fun j oj dj hj hne hoj hdj h => by
      subst h
      exact (hoth j oj hj ((hl j hj).symm.trans hoj) hne).1 hdj
    have hgp : (listed.setIfInBounds i true).getD p false = listed.getD p false := getD_set_ne false hip
    have fin : ∀ u w', V.p w' u → Below w.heap.size w w' → K (a.put o.dst u) w' := fun u w' hv hb => by
      refine hK _ _ ?_
      rw [hd]
      have hws : w0.heap.size ≤ w.heap.size := by
        have := hI.below.size
        split at this
        · omega
        · exact this
      refine ⟨by rw [hgp]; exact hI.below.trans (hb.mono hws), hI.defers, by simp only [Act.put]; simpa using hI.size, fun s hs => ?_, fun j oj dj Vj hj hlj hoj hdj hVj => ?_⟩
      · have hds : d ≠ s := fun h => hs i o hi (by simp [Array.getD, hilt]) hli (by rw [hd, h])
        simp only [Act.put]
        rw [Array.getElem?_setIfInBounds_ne hds]
        refine hI.out s (fun j oj hj hlj hoj => ?_)
        refine hs j oj hj ?_ hoj
        by_cases hij : i = j
        · subst hij; rw [hun] at hlj; cases hlj
        · rw [getD_set_ne false hij]; exact hlj
      · by_cases hij : i = j
        · subst hij
          obtain rfl : o = oj := Option.some.inj (hli.symm.trans hoj)
          obtain rfl : d = dj := Option.some.inj (hd.symm.trans hdj)
          obtain rfl : V = Vj := Option.some.inj (hV.symm.trans hVj)
          refine ⟨u, ?_, hv⟩
          simp only [Act.put]
          rw [Array.getElem?_setIfInBounds_self, if_pos (by rw [hI.size]; exact hdN)]
        · rw [getD_set_ne false hij] at hlj
          obtain ⟨u', h1, h2⟩ := hI.vals j oj dj Vj hj hlj hoj hdj hVj
          refine ⟨u', ?_, Vj.below h2 hb⟩
          simp only [Act.put]
          rw [Array.getElem?_setIfInBounds_ne (hdne j oj dj hj (Ne.symm hij) hoj hdj)]
          exact h1
    have hbl := hI.below
    by_cases hdone : listed.getD p false = true
    · rw [if_pos hdone, ← hsz1] at hbl
      exact hF1.at_work hbl hsees K Q (fun u w' h1 h2 _ => fin u w' h1 h2)
    · rw [if_neg hdone] at hbl
      exact hF0.at_work hbl hsees K Q (fun u w' h1 h2 _ => fin u w' h1 h2)
  · subst hip
    have hbl := hI.below
    rw [if_neg (by rw [hun]; simp)] at hbl
    have hgw : Blk w g t cs := hblk.below hbl
    obtain ⟨ux, hux, ex⟩ := hsees x _ (by unfold Oper.looksAt; exact List.mem_append_left _ (by rw [hop]; simp [Op.operands])) hx
    obtain ⟨us, hus, es⟩ := hsees s _ (by unfold Oper.looksAt; exact List.mem_append_left _ (by rw [hop]; simp [Op.operands])) hs
    have ex : ux = .pointer (some ⟨g, 0, none⟩) := ex
    have es : us = v := es
    subst ex es
    have h3 : Keeps [g] w (w.setCells g 0 us.cells.toList) := Keeps.setCells (.inl (by simp)) _ _ (Keeps.refl _ _)
    have hgw' : Blk (w.setCells g 0 us.cells.toList) g t us.cells := by
      have h := hgw.setCells us.cells.toList 0
      rw [splice_all _ _ (by simpa using hcs)] at h
      simpa using h
    rw [if_pos (by simp [Region.wanted, hg])]
    have ea : a.eval (.tmp x) = .pointer (some ⟨g, 0, none⟩) := by simp [Act.eval, Array.getD_eq_getD_getElem?, hux]
    have eb : a.eval (.tmp s) = us := by simp [Act.eval, Array.getD_eq_getD_getElem?, hus]
    unfold Oper.wp execOp
    simp only [hop, ea, eb, Instr.storeAt, Instr.sureAddr, Sem.run_bind, Sem.run_pure, Result.andThen_ok, storeVar_cells ty _ us, run_storeVar_mid w g 0 ty us.cells (hgw.there (by omega)) hz hone]
    show K (a.put o.dst undef) _
    rw [hdn]
    refine hK _ _ ⟨?_, hI.defers, hI.size, fun s' hs' => ?_, fun j oj dj Vj hj hlj hoj hdj hVj => ?_⟩
    · rw [if_pos (by simp [Array.getD, hilt])]
      refine ⟨h3.os.trans (hbl.os.trans hk01.os.symm), h3.tape.trans (hbl.tape.trans hk01.tape.symm), h3.output.trans (hbl.output.trans hk01.output.symm), by rw [hsz1]; exact Nat.le_trans hbl.size h3.size, fun k hk => ?_⟩
      by_cases hkg : k = g
      · subst hkg
        exact hgw'.trans hblk1.symm
      · rw [h3.block k (Nat.lt_of_lt_of_le hk hbl.size) (by simpa using hkg), hbl.block k hk, hk01.block k hk (by simpa using hkg)]
    · refine hI.out s' (fun j oj hj hlj hoj => hs' j oj hj ?_ hoj)
      by_cases hij : i = j
      · subst hij; rw [hun] at hlj; cases hlj
      · rw [getD_set_ne false hij]; exact hlj
    · have hij : i ≠ j := fun h => by
        subst h
        obtain rfl : o = oj := Option.some.inj (hli.symm.trans hoj)
        rw [hdn] at hdj; cases hdj
      rw [getD_set_ne false hij] at hlj
      obtain ⟨u', k1, k2⟩ := hI.vals j oj dj Vj hj hlj hoj hdj hVj
      refine ⟨u', k1, Vj.far k2 h3 hgw ?_⟩
      obtain ⟨Vj', _, hVj', hFj, _⟩ := hL.at_ j oj hoj
      obtain rfl : Vj = Vj' := Option.some.inj (hVj.symm.trans hVj')
      rcases hFj with ⟨_, _, h, _⟩ | ⟨_, h, _⟩
      · exact h
      · rw [h] at hdj; cases hdj
theorem TInvW.all (hB : regW ops N n p = true) (hL : LineW P ops w0 w1 t g v p 0 Γ l Vs) (hn : n = l.length) (hF : Fr N Γ a0 w0) (hΓ : Γ.free t = true) (hblk : Blk w0 g t cs) (hw1 : w1 = w0.setCells g 0 v.cells.toList) {listed : Array Bool} {a : Act} {w : World} (hI : TInvW N n p l Vs a0 w0 w1 listed a w) (hall : ∀ i, i < n → listed.getD i false = true) :
    Fr N (extW Γ l Vs) a w ∧ Below w0.heap.size w1 w := by
  have lt : ∀ (j : Nat) (oj : Oper), l[j]? = some oj → j < n := fun j oj h => by rw [hn]; exact (List.getElem?_eq_some_iff.1 h).1
  have hp := hall p (regW_p hB).1
  have hbl := hI.below
  rw [if_pos hp] at hbl
  refine ⟨⟨hI.size, hI.defers, fun s τ hs => ?_⟩, hbl⟩
  rcases hL.ext_look s τ hs with ⟨j, oj, hoj, hds, hVj⟩ | ⟨hno, hl0⟩
  · exact hI.vals j oj s τ (lt j oj hoj) (hall j (lt j oj hoj)) hoj hds hVj
  · obtain ⟨u, h1, h2⟩ := hI.old hF hΓ hblk hw1 hl0
    exact ⟨u, by rw [hI.out s (fun j oj _ _ hoj => hno j oj hoj)]; exact h1, h2⟩
end

section
variable {P : Program} {w0 w1 : World} {t : TypeId} {g : Nat} {v : Value} {cs : Array Value} {Γ : Ctx} {N : Nat} {Vs : List Ty} {a0 : Act}
theorem region_w {id : Nat} {Q : Exit → Act → World → Prop} {l : List Oper} {draw : Bool} (n p : Nat) (hm : P.follows .mixedOrders = true) (hB : (regW l.toArray N n p && tailB l.toArray n) = true) (hF : Fr N Γ a0 w0) (hΓ : Γ.free t = true) (hblk : Blk w0 g t cs) (hcs : v.cells.size = cs.size) (hone : v.cells.all (·.oneCell') = true) (hw1 : w1 = w0.setCells g 0 v.cells.toList)
    (hL : LineW P l.toArray w0 w1 t g v p 0 Γ (l.take n) Vs)
    (hQ : ∀ a w, Fr N (extW Γ (l.take n) Vs) a w → Keeps [g] w0 w → Blk w g t v.cells → wpList P l.toArray Q (l.drop n) a w) : (Code.region id l.toArray draw).wp P Q a0 w0 := by
  rw [Bool.and_eq_true] at hB
  obtain ⟨hB, hT⟩ := hB
  have hsize : l.toArray.size = l.length := by simp
  have hnl : n ≤ l.toArray.size := by
    unfold tailB at hT
    split at hT
    · rename_i h; simp at h; simp [h]
    · simp only [Bool.and_eq_true, decide_eq_true_eq] at hT; omega
  have hlen : n = (l.take n).length := by simp at hnl ⊢; omega
  have hli : ∀ i, i < n → (l.take n)[i]? = l.toArray[i]? := fun i hi => by simp [hi]
  have hback : ∀ i o, i < n → l.toArray[i]? = some o → ∀ e ∈ o.after, Region.binds .any e = true → e.on < i := fun i o hi ho e he hb => by
    exact regW_back hB i o hi ho e he hb
  have fin : ∀ (listed : Array Bool) a w, TInvW N n p (l.take n) Vs a0 w0 w1 listed a w → (∀ i, i < n → listed.getD i false = true) → wpList P l.toArray Q (l.drop n) a w := fun listed a w hI hall => by
    obtain ⟨h1, h2⟩ := hI.all hB hL hlen hF hΓ hblk hw1 hall
    have hk01 : Keeps [g] w0 w1 := by rw [hw1]; exact Keeps.setCells (.inl (by simp)) _ _ (Keeps.refl _ _)
    have hsz1 : w1.heap.size = w0.heap.size := by rw [hw1]; exact size_setC _ _ _ _
    have hblk1 : Blk w1 g t v.cells := by
      have h := hblk.setCells v.cells.toList 0
      rw [splice_all _ _ (by simpa using hcs)] at h
      rw [hw1]
      simpa using h
    rw [← hsz1] at h2
    exact hQ a w h1 (hk01.trans (Keeps.of_below h2)) (hblk1.below h2)
  cases draw with
  | true =>
    have key : ∀ (f : Nat) (listed : Array Bool) (a : Act) (w : World), HeadInv .any l.toArray n listed → wanting n listed = f → TInvW N n p (l.take n) Vs a0 w0 w1 listed a w → wpAny P .any l.toArray Q (f + (l.toArray.size - n)) listed a w := by
      intro f
      induction f with
      | zero =>
        intro listed a w hH h0 hI
        have hall := wanting_zero h0
        have hdl : (l.drop n).length = l.toArray.size - n := by simp
        have e := all_listed hH hall hnl
        have hseq : Region.seqB .any l.toArray (l.toArray.size - n) n listed = true := by
          unfold tailB at hT
          split at hT
          · rename_i h
            have hz : n = l.toArray.size := by simpa using h
            have h2 : l.toArray.size - n = 0 := by omega
            rw [h2]
            simp only [Region.seqB, List.isEmpty_iff]
            unfold Region.ready
            rw [List.filter_eq_nil_iff]
            intro i hi
            have hi' := List.mem_range.1 hi
            have h3 := hall i (by omega)
            have hil : i < listed.size := by rw [hH.size]; exact hi'
            simp [Array.getD, hil] at h3 ⊢
            simp [h3]
          · simp only [Bool.and_eq_true] at hT
            rw [e]; exact hT.2
        have := wpAny_of_seq (md := .any) (Q' := Q) (l.drop n) n listed a w (fun j => by simp [List.getElem?_drop]) (by rw [hdl]; exact hseq) (fin listed a w hI hall)
        rw [Nat.zero_add]
        rwa [hdl] at this
      | succ f ih =>
        intro listed a w hH h0 hI
        rw [show f + 1 + (l.toArray.size - n) = (f + (l.toArray.size - n)) + 1 by omega]
        have hex : ∃ i, i < n ∧ listed.getD i true = false := by
          refine Classical.byContradiction fun hno => ?_
          have hz : wanting n listed = 0 := by
            unfold wanting
            rw [List.length_eq_zero_iff, List.filter_eq_nil_iff]
            intro i hi
            have hi' := List.mem_range.1 hi
            have hl : i < listed.size := by rw [hH.size]; omega
            have h1 : ¬ listed.getD i true = false := fun h => hno ⟨i, hi', h⟩
            simp [Array.getD, hl] at h1 ⊢
            exact h1
          omega
        obtain ⟨i0, hi0, hun0⟩ := hex
        refine ⟨fun hr => ?_, fun i hi => ?_⟩
        · exfalso
          have := ready_head hback hnl hH.size hr i0 hi0
          rw [getD_both hun0] at this
          cases this
        · obtain ⟨h1, o, ho, h2⟩ := mem_ready.1 hi
          have hin : i < n := Nat.lt_of_not_le fun h => by
            have hio := (Array.getElem?_eq_some_iff.1 ho).1
            unfold tailB at hT
            split at hT
            · rename_i h'; simp at h'; omega
            · simp only [Bool.and_eq_true, decide_eq_true_eq] at hT
              exact tail_waits hT.1.1.2 hT.1.2 hT.1.1.1 hH _ i0 rfl hi0 hun0 i h hi
          have hil : i < listed.size := by rw [hH.size]; omega
          have h3 := TInvW.step hB hli hL hF hΓ hblk hcs hone hw1 hI hH.size hH.closed hin ho (getD_both h1) h2 (wpAny P .any l.toArray Q (f + (l.toArray.size - n)) (listed.setIfInBounds i true)) Q (fun a' w' hI' => by
            refine ih _ a' w' (hH.set hi hin) ?_ hI'
            have := wanting_set hin hil (getD_both h1)
            omega)
          unfold wpOp
          simp only [ho]
          split
          · rename_i hw
            rw [if_pos hw] at h3
            exact .inl h3
          · rename_i hw
            rw [if_neg hw] at h3
            exact h3
    have inv0 : HeadInv .any l.toArray n (Array.replicate l.toArray.size false) :=
      ⟨by simp, fun j oj _ hl => (by rw [getD_replicate_false] at hl; cases hl), fun t _ ht => getD_in (by simpa using ht) (getD_replicate_false _ _)⟩
    have h0 : wanting n (Array.replicate l.toArray.size false) = n := by
      unfold wanting
      rw [List.filter_eq_self.2 (fun i _ => by rw [getD_replicate_false]; rfl), List.length_range]
    refine wp_region_any hm ?_
    have := key n _ a0 w0.drew inv0 h0 (TInvW.start hF (Below.refl _ _).drew _)
    rw [show n + (l.toArray.size - n) = l.toArray.size by omega] at this
    exact this
  | false =>
    have key : ∀ (f k : Nat) (a : Act) (w : World), k + f = n → TInvW N n p (l.take n) Vs a0 w0 w1 ((List.replicate k true ++ List.replicate (l.toArray.size - k) false).toArray) a w → wpList P l.toArray Q (l.drop k) a w := by
      intro f
      induction f with
      | zero =>
        intro k a w hk hI
        obtain rfl : k = n := by omega
        refine fin _ a w hI (fun i hi => ?_)
        simp [Array.getD, hi]
        omega
      | succ f ih =>
        intro k a w hk hI
        have hkn : k < n := by omega
        have hkl : k < l.length := by omega
        have hdrop : l.drop k = l[k] :: l.drop (k + 1) := by rw [List.drop_eq_getElem_cons hkl]
        have getD_k : ∀ m j, m ≤ l.toArray.size → (List.replicate m true ++ List.replicate (l.toArray.size - m) false).toArray.getD j false = decide (j < m) := fun m j hm => by
          by_cases hj : j < m
          · simp [Array.getD, hj]; omega
          · simp [Array.getD, List.getElem_append, hj]
        have ho : l.toArray[k]? = some l[k] := by simp [hkl]
        have hset : (List.replicate k true ++ List.replicate (l.toArray.size - k) false).toArray.setIfInBounds k true = (List.replicate (k + 1) true ++ List.replicate (l.toArray.size - (k + 1)) false).toArray := by
          apply Array.ext_getElem?
          intro j
          rw [show l.toArray.size - k = (l.toArray.size - (k + 1)) + 1 by omega, List.replicate_succ, List.replicate_succ']
          simp only [List.setIfInBounds_toArray, List.getElem?_toArray, List.append_assoc, List.singleton_append]
          rw [List.set_append_right _ _ (by simp)]
          simp
        rw [hdrop]
        refine wpList_step fun K hK => ?_
        refine TInvW.step hB hli hL hF hΓ hblk hcs hone hw1 hI (by simp; omega) (fun j oj hj hl e he hb => ?_) hkn ho (by rw [getD_k k k (by omega)]; simp) (fun e he hb => ?_) K Q (fun a' w' hI' => hK a' w' (ih (k + 1) a' w' (by omega) (by rw [← hset]; exact hI')))
        · rw [getD_k k _ (by omega)] at hl ⊢
          simp only [decide_eq_true_eq] at hl ⊢
          have := hback j oj (by omega) hj e he hb
          omega
        · rw [getD_k k _ (by omega)]
          simp only [decide_eq_true_eq]
          exact hback k _ hkn ho e he hb
    refine wp_region_lit ?_
    have := key n 0 a0 w0 (by omega) (by
      have e : (List.replicate 0 true ++ List.replicate (l.toArray.size - 0) false).toArray = Array.replicate l.toArray.size false := by simp
      rw [e]
      exact TInvW.start hF (Below.refl _ _) _)
    simpa using this
end
end Go.Proofs.YtgmeagkolahkoaaDoor
