/- Joined: TyP, XorP, SetB, WordP, PlaceC, PlaceD, R1Keys, R1Block, R1Xor, App, Still, SumW, R1Of, PlaceE, PlaceF, PlaceG, TabP, XorA, TabA, TyO, TyW, TabB, SetA, CmpP, Cmp, R1Cmp, SetC, SetD, SetE, TabC, TabD. -/
import Derived.KernelRfl
import Derived.IntWalk
import Derived.Lib.TrailingZeros
import Derived.Shelf.Spec.TrailingZeros
import Derived.StillTailTactics
import Derived.WalkLawsBesides
import Derived.Lib.Hide
import Derived.Test.YtmefpnklgfhggaaGreatDoorProg
import Derived.Lib.Bytealg
import Derived.Lib.BytesEntry
import Derived.Deep.QuietTactic
import Derived.BigQuiet
import Derived.Laws.MakeOwn
import Derived.Test.YtmefpnklgfhggaaGreatDoorZReconKnownCard1
/- Regions by types: sum.Of of parts. -/
namespace Go.Proofs.YtmefpnklgfhggaaGreatDoor
open Go.RowKit


/-- A slice of parts, each bytes. -/
theorem parts_slT {w : World} {e : TypeId} {n : Nat} {v : Value} {ls : List (List Nat)} {τs : List Ty} (h : (Ty.slT e n τs).p w v) (hl : τs.length = ls.length) (hr : ∀ (i : Nat) (l : List Nat) (τ : Ty), ls[i]? = some l → τs[i]? = some τ → Reads τ l.length (l.map bv)) (hx : ∀ l ∈ ls, ∀ x ∈ l, x < 256) (hne : 0 < ls.length) :
    ∃ b o c, v = .slice (some ⟨b, o, none⟩) n c ∧ n ≤ c ∧ Parts w b o ls := by
  obtain ⟨A, c, rfl, h2, h3, h4, h5⟩ := h
  have h0 : 0 < τs.length := by omega
  obtain ⟨g, off, cs, fr, u, rfl, h7, h8, h9⟩ := h5 0 _ (List.getElem?_eq_getElem h0)
  refine ⟨g, off, c, rfl, h2, fun i l hi => ?_⟩
  have hil : i < τs.length := by have := (List.getElem?_eq_some_iff.1 hi).1; omega
  obtain ⟨g', off', cs', fr', u', e', k7, k8, k9⟩ := h5 i _ (List.getElem?_eq_getElem hil)
  injection e' with e'
  injection e' with e1 e2
  subst e1 e2
  rw [h7] at k7
  injection k7 with k7
  injection k7 with k7
  subst k7
  obtain ⟨B, d, hu, hm, hB, hrd⟩ := hr i l _ hi (List.getElem?_eq_getElem hil) w u' k9
  subst hu
  exact ⟨B, d, by rw [cell_of_row w g (off + i) cs e fr h7]; exact k8, hrd, fun e => List.eq_nil_of_length_eq_zero (hB e), hx l (List.mem_of_getElem? hi)⟩
theorem sumOf_ty {e : TypeId} (ls : List (List Nat)) (τs : List Ty) (hl : τs.length = ls.length) (hr : ∀ (i : Nat) (l : List Nat) (τ : Ty), ls[i]? = some l → τs[i]? = some τ → Reads τ l.length (l.map bv)) (hx : ∀ l ∈ ls, ∀ x ∈ l, x < 256) (hne : 0 < ls.length) (hlen : ls.flatten.length ≤ 1099511627776) (hn : ls.length ≤ 1099511627776) :
    Fn1 Tryz.prog 38 (Ty.slT e ls.length τs) (Ty.ex (.agg (u8s (shaL ls.flatten)))) :=
  ⟨fun args w => by kernel_rfl, fun w v hv => by
    obtain ⟨b, o, c, rfl, hc, hp⟩ := parts_slT hv hl hr hx hne
    exact Ret.of (Of_any _ b o ls.length c ls w rfl hc (fun _ => rfl) hp hlen hn)⟩
theorem reads_bytes (e : TypeId) (l : List Nat) : Reads (Ty.sl e l.length (l.map bv)) l.length (l.map bv) := reads_sl _ _ _
theorem sumOf1_ty {e : TypeId} {τ : Ty} (l : List Nat) (hτ : Reads τ l.length (l.map bv)) (hx : ∀ x ∈ l, x < 256) (hlen : l.length ≤ 1099511627776) : Fn1 Tryz.prog 38 (Ty.slT e 1 [τ]) (Ty.ex (.agg (u8s (shaL l)))) := by
  have h := sumOf_ty (e := e) [l] [τ] rfl (fun i k σ h1 h2 => by
    match i with
    | 0 => simp at h1 h2; subst h1 h2; exact hτ
    | i + 1 => simp at h1) (by simpa using hx) (by simp) (by simpa using hlen) (by simp)
  simpa using h
theorem sumOf2_ty {e : TypeId} {τ σ : Ty} (l k : List Nat) (hτ : Reads τ l.length (l.map bv)) (hσ : Reads σ k.length (k.map bv)) (hx : ∀ x ∈ l, x < 256) (hy : ∀ x ∈ k, x < 256) (hlen : l.length + k.length ≤ 1099511627776) : Fn1 Tryz.prog 38 (Ty.slT e 2 [τ, σ]) (Ty.ex (.agg (u8s (shaL (l ++ k))))) := by
  have h := sumOf_ty (e := e) [l, k] [τ, σ] rfl (fun i q υ h1 h2 => by
    match i with
    | 0 => simp at h1 h2; subst h1 h2; exact hτ
    | 1 => simp at h1 h2; subst h1 h2; exact hσ
    | i + 2 => simp at h1) (by
      intro q hq
      simp at hq
      rcases hq with rfl | rfl
      · exact hx
      · exact hy) (by simp) (by simpa using hlen) (by simp)
  simpa using h

def shaS (l : List Nat) : Sm := ⟨shaL l, shaL_len l, shaL_lt l⟩
theorem infoU8 : (Tryz.prog.info? 5).map (fun i => (i.zero, i.size, i.bytes)) = some (some (.int .u8 0), 1, 1) := by kernel_rfl
theorem infoB : (Tryz.prog.info? 95).map (fun i => (i.zero, i.size, i.bytes)) = some (some (.slice none 0 0), 1, 24) := by kernel_rfl
end Go.Proofs.YtmefpnklgfhggaaGreatDoor

/- Sums laid on each other, plainly. -/
namespace Go.Proofs.YtmefpnklgfhggaaGreatDoor
open Go.RowKit

def x8 (a b : Nat) : Nat := (a ^^^ b) % 256
theorem x8_eq (a b : Nat) : bits .xor .u8 (a : Int) (b : Int) = ((x8 a b : Nat) : Int) := by
  show IntKind.u8.wrap ((BitVec.ofInt 8 (a : Int) ^^^ BitVec.ofInt 8 (b : Int)).toNat : Int) = _
  rw [BitVec.toNat_xor, BitVec.ofInt_natCast, BitVec.ofInt_natCast, BitVec.toNat_ofNat, BitVec.toNat_ofNat, IntKind.wrap_u8']
  have h : a % 2 ^ 8 ^^^ b % 2 ^ 8 = (a ^^^ b) % 2 ^ 8 := (Nat.xor_mod_two_pow (n := 8)).symm
  unfold x8
  rw [h]
  omega
theorem x8_lt (a b : Nat) : x8 a b < 256 := Nat.mod_lt _ (by omega)
theorem x8_comm (a b : Nat) : x8 a b = x8 b a := by unfold x8; rw [Nat.xor_comm]
theorem x8_assoc (a b c : Nat) : x8 (x8 a b) c = x8 a (x8 b c) := by
  unfold x8
  have e1 : ((a ^^^ b) % 256 ^^^ c) % 256 = (a ^^^ b ^^^ c) % 256 := by
    have h1 : ((a ^^^ b) % 2 ^ 8 ^^^ c) % 2 ^ 8 = ((a ^^^ b) % 2 ^ 8 % 2 ^ 8) ^^^ (c % 2 ^ 8) := Nat.xor_mod_two_pow
    have h2 : (a ^^^ b ^^^ c) % 2 ^ 8 = (a ^^^ b) % 2 ^ 8 ^^^ c % 2 ^ 8 := Nat.xor_mod_two_pow
    rw [Nat.mod_mod] at h1
    exact h1.trans h2.symm
  have e2 : (a ^^^ (b ^^^ c) % 256) % 256 = (a ^^^ (b ^^^ c)) % 256 := by
    have h1 : (a ^^^ (b ^^^ c) % 2 ^ 8) % 2 ^ 8 = a % 2 ^ 8 ^^^ ((b ^^^ c) % 2 ^ 8 % 2 ^ 8) := Nat.xor_mod_two_pow
    have h2 : (a ^^^ (b ^^^ c)) % 2 ^ 8 = a % 2 ^ 8 ^^^ (b ^^^ c) % 2 ^ 8 := Nat.xor_mod_two_pow
    rw [Nat.mod_mod] at h1
    exact h1.trans h2.symm
  rw [e1, e2, Nat.xor_assoc]
theorem x8_self (a : Nat) : x8 a a = 0 := by unfold x8; rw [Nat.xor_self]
theorem x8_zero (a : Nat) (h : a < 256) : x8 a 0 = a := by unfold x8; rw [Nat.xor_zero]; omega

def xorL (x y : List Nat) : List Nat := List.zipWith x8 x y
theorem xorL_len {x y : List Nat} (h : x.length = y.length) : (xorL x y).length = x.length := by simp [xorL, h]
theorem xorL_lt (x y : List Nat) : ∀ z ∈ xorL x y, z < 256 := by
  intro z hz
  obtain ⟨i, hi, rfl⟩ := List.getElem_of_mem hz
  simp only [xorL, List.getElem_zipWith]
  exact x8_lt _ _
def Sm.xor (x y : Sm) : Sm := ⟨xorL x.l y.l, by rw [xorL_len (by rw [x.len, y.len]), x.len], xorL_lt _ _⟩
theorem Sm.ext_get {x y : Sm} (h : ∀ i (h1 : i < x.l.length) (h2 : i < y.l.length), x.l[i] = y.l[i]) : x = y :=
  Sm.ext_l (List.ext_getElem (by rw [x.len, y.len]) h)
theorem Sm.xor_comm (x y : Sm) : x.xor y = y.xor x := by
  apply Sm.ext_get; intro i h1 h2
  simp only [Sm.xor, xorL, List.getElem_zipWith]; exact x8_comm _ _
theorem Sm.xor_assoc (x y z : Sm) : (x.xor y).xor z = x.xor (y.xor z) := by
  apply Sm.ext_get; intro i h1 h2
  simp only [Sm.xor, xorL, List.getElem_zipWith]; exact x8_assoc _ _ _
theorem Sm.xor_self (x : Sm) : x.xor x = Sm.zero := by
  apply Sm.ext_get; intro i h1 h2
  simp only [Sm.xor, xorL, List.getElem_zipWith, Sm.zero, List.getElem_replicate]; exact x8_self _
theorem Sm.xor_zero (x : Sm) : x.xor Sm.zero = x := by
  apply Sm.ext_get; intro i h1 h2
  simp only [Sm.xor, xorL, List.getElem_zipWith, Sm.zero, List.getElem_replicate]; exact x8_zero _ (x.lt _ (List.getElem_mem _))
/-- x with y laid on its first k bytes. -/
def mix8 (x y : List Nat) (k : Nat) : List Nat := (xorL x y).take k ++ x.drop k
theorem mix8_len {x y : List Nat} {k : Nat} (hx : x.length = 32) (hy : y.length = 32) (hk : k ≤ 32) : (mix8 x y k).length = 32 := by
  unfold mix8; simp [xorL, hx, hy]; omega
theorem mix8_get {x y : List Nat} {k : Nat} (hx : x.length = 32) (hy : y.length = 32) (hk : k < 32) : (mix8 x y k).getD k 0 = x.getD k 0 := by
  have hl : ((xorL x y).take k).length = k := by simp [xorL, hx, hy]; omega
  unfold mix8
  rw [List.getD, List.getElem?_append_right (by omega), List.getElem?_drop, hl]
  simp [List.getD]
theorem mix8_set {x y : List Nat} {k : Nat} (hx : x.length = 32) (hy : y.length = 32) (hk : k < 32) : (u8s (mix8 x y k)).setIfInBounds k (.int .u8 ((x8 (x.getD k 0) (y.getD k 0) : Nat) : Int)) = u8s (mix8 x y (k + 1)) := by
  have hzl : (xorL x y).length = 32 := by simp [xorL, hx, hy]
  have hz : (xorL x y)[k]'(by omega) = x8 (x.getD k 0) (y.getD k 0) := by
    simp only [xorL, List.getElem_zipWith]
    simp [List.getD, List.getElem?_eq_getElem (show k < x.length by omega), List.getElem?_eq_getElem (show k < y.length by omega)]
  rw [u8s_set]
  unfold mix8
  have hl : ((xorL x y).take k).length = k := by rw [List.length_take]; omega
  rw [List.take_succ_eq_append_getElem (by omega), hz, List.set_append_right _ _ (by omega), hl, Nat.sub_self, List.drop_eq_getElem_cons (show k < x.length by omega), List.set_cons_zero, List.append_assoc]
  rfl
theorem mix8_all {x y : List Nat} (hx : x.length = 32) (hy : y.length = 32) : mix8 x y 32 = xorL x y := by
  unfold mix8; rw [List.take_of_length_le (by simp [xorL, hx, hy]), List.drop_of_length_le (by omega), List.append_nil]
end Go.Proofs.YtmefpnklgfhggaaGreatDoor

/- Layer 10: words of this translation: rows of sums. -/
namespace Go.Proofs.YtmefpnklgfhggaaGreatDoor
open Go.RowKit

theorem mixed : Tryz.prog.follows .mixedOrders = true := by kernel_rfl
theorem infoS : (Tryz.prog.info? 28).map (fun i => (i.zero, i.size, i.bytes)) = some (some (.agg (u8s (List.replicate 32 0))), 32, 32) := by kernel_rfl
theorem sizeS : (Tryz.prog.info? 28).map (·.size) = some 32 := by kernel_rfl
theorem sizeU : (Tryz.prog.info? 5).map (·.size) = some 1 := by kernel_rfl
theorem zero32_size : (Value.agg (u8s (List.replicate 32 0))).cells.size = 32 := by decide
theorem enc_one (x : Sm) : ∀ u ∈ x.enc, u.oneCell' = true := by
  intro u hu
  obtain ⟨b, _, rfl⟩ := List.mem_map.1 hu
  rfl

section
variable {w0 : World} {Γ : Ctx} {o : Oper}
theorem cEqlAgg {P : Program} {t t2 : TypeId} {x y : Operand} {xs ys : Array Value} {b : Bool} (ho : o.op = .binOp .eql t x y t2) (hx : OpT Γ x (Ty.ex (.agg xs))) (hy : OpT Γ y (Ty.ex (.agg ys))) (hg : P.eqGuardType P.depth t = false)
    (hr : ∀ w : World, (binOp .eql t (.agg xs) (.agg ys)).run P w = .ok (.bool b) w) : OpOk P w0 Γ o (Ty.ex (.bool b)) :=
  cBin ho hx hy fun w => by rw [Sem.run_bind, run_eqGuard_agg (P := P) w .eql t x y xs ys hg]; exact hr w
theorem cNeqAgg {P : Program} {t t2 : TypeId} {x y : Operand} {xs ys : Array Value} {b : Bool} (ho : o.op = .binOp .neq t x y t2) (hx : OpT Γ x (Ty.ex (.agg xs))) (hy : OpT Γ y (Ty.ex (.agg ys))) (hg : P.eqGuardType P.depth t = false)
    (hr : ∀ w : World, (binOp .neq t (.agg xs) (.agg ys)).run P w = .ok (.bool b) w) : OpOk P w0 Γ o (Ty.ex (.bool b)) :=
  cBin ho hx hy fun w => by rw [Sem.run_bind, run_eqGuard_agg (P := P) w .neq t x y xs ys hg]; exact hr w
theorem dec_l (x y : Sm) : decide (x.l = y.l) = decide (x = y) := by
  rw [Bool.eq_iff_iff, decide_eq_true_eq, decide_eq_true_eq]
  exact ⟨Sm.ext_l, fun h => by rw [h]⟩
theorem guardS : Tryz.prog.eqGuardType Tryz.prog.depth 28 = false := by kernel_rfl
theorem cells_byte : Tryz.prog.cellsOf 5 = 1 := by kernel_rfl
theorem info_u8 : ∃ i, Tryz.prog.info? 5 = some i := by
  have h : (Tryz.prog.info? 5).isSome = true := by kernel_rfl
  exact Option.isSome_iff_exists.1 h
theorem eqlS (x y : Sm) (w : World) : (binOp .eql 28 (.agg (u8s x.l)) (.agg (u8s y.l))).run Tryz.prog w = .ok (.bool (decide (x = y))) w := by
  obtain ⟨i, hi⟩ := info_u8
  rw [run_eql_bytes 28 5 32 i Tryz.underlying28 hi cells_byte Tryz.underlying5 Tryz.isAgg5 x.l y.l x.len y.len w, dec_l]
theorem neqS (x y : Sm) (w : World) : (binOp .neq 28 (.agg (u8s x.l)) (.agg (u8s y.l))).run Tryz.prog w = .ok (.bool (!decide (x = y))) w := by
  obtain ⟨i, hi⟩ := info_u8
  rw [run_neq_bytes 28 5 32 i Tryz.underlying28 hi cells_byte Tryz.underlying5 Tryz.isAgg5 x.l y.l x.len y.len w, dec_l]
end

/-- A sum whose first byte is b. -/
def sm1 (b : Nat) (h : b < 256) : Sm := ⟨b :: List.replicate 31 0, by simp, fun x hx => by
  rcases List.mem_cons.1 hx with rfl | hx
  · exact h
  · rw [(List.mem_replicate.1 hx).2]; omega⟩
end Go.Proofs.YtmefpnklgfhggaaGreatDoor

/- Eight bytes of a sum as a number: plainly. -/
namespace Go.Proofs.YtmefpnklgfhggaaGreatDoor
open Go.RowKit

/-- The number that the last t of the eight bytes from 8 i on make. -/
def wordF (l : List Nat) (i : Nat) : Nat → Nat
  | 0 => 0
  | t + 1 => wordF l i t * 256 + l.getD (8 * i + (7 - t)) 0
theorem wordF_lt (l : List Nat) (i : Nat) (hl : ∀ j, l.getD j 0 < 256) : ∀ t, wordF l i t < 256 ^ t
  | 0 => by simp [wordF]
  | t + 1 => by
    have h1 := wordF_lt l i hl t
    have h2 := hl (8 * i + (7 - t))
    rw [wordF, Nat.pow_succ]
    omega
theorem wrap64u (n : Int) (h0 : 0 ≤ n) (h1 : n < 2 ^ 64) : IntKind.u64.wrap n = n := by
  have : IntKind.u64.wrap n = n % 18446744073709551616 := by simp [IntKind.wrap, IntKind.bits, IntKind.signed]
  rw [this]; omega
theorem or_byte (n b : Nat) (hn : n < 72057594037927936) (hb : b < 256) : bits .or .u64 ((n : Int) * 256) (b : Int) = ((n * 256 + b : Nat) : Int) := by
  have h := bits_join .u64 64 (by decide) wrap64u 8 ((n : Int) * 256) (b : Int) (by omega) (by omega) (by omega) (by omega) (by omega) (by omega)
  rw [h]
  omega

end Go.Proofs.YtmefpnklgfhggaaGreatDoor

/- Layer 14 by types: Word, GoodCells, Good, ints. -/
namespace Go.Proofs.YtmefpnklgfhggaaGreatDoor
open Go.RowKit

section
variable {P : Program} {w0 : World} {Γ : Ctx} {o : Oper} {t t2 : TypeId} {x y : Operand}
theorem cOr {k : IntKind} {m n r : Int} (ho : o.op = .binOp .or t x y t2) (hx : OpT Γ x (Ty.ex (.int k m))) (hy : OpT Γ y (Ty.ex (.int k n))) (hr : bits .or k m n = r) : OpOk P w0 Γ o (Ty.ex (.int k r)) :=
  cBin ho hx hy fun w => by subst hr; simp [eqGuard, binOp, Op.intBits, bits]
theorem cShl {k j : IntKind} {m n r : Int} (ho : o.op = .binOp .shl t x y t2) (hx : OpT Γ x (Ty.ex (.int k m))) (hy : OpT Γ y (Ty.ex (.int j n))) (hn : 0 ≤ n ∧ n.toNat ≤ k.bits) (hr : k.wrap (m * 2 ^ n.toNat) = r) : OpOk P w0 Γ o (Ty.ex (.int k r)) :=
  cBin ho hx hy fun w => by
    have h1 : ¬ n < 0 := by omega
    have h2 : min n.toNat k.bits = n.toNat := Nat.min_eq_left hn.2
    simp [eqGuard, binOp, Op.shift, h1, h2, hr]
theorem cRemI {m n r : Int} {k : IntKind} (ho : o.op = .binOp .rem t x y t2) (hx : OpT Γ x (Ty.ex (.int k m))) (hy : OpT Γ y (Ty.ex (.int k n))) (hn : n ≠ 0) (hr : m.tmod n = r) : OpOk P w0 Γ o (Ty.ex (.int k r)) := by
  have h := cRem (P := P) (w0 := w0) ho hx hy hn
  rwa [hr] at h
end
theorem three_ne : (3 : Int) ≠ 0 := by decide
def goodN (n : Int) : Bool := decide (3 ≤ n ∧ n ≤ 1024 ∧ n % 3 = 0)
set_option maxRecDepth 100000 in
theorem good14_ty (n : Int) : Fn1 Tryz.prog 47 (Ty.ex (.int .i64 n)) (Ty.ex (.bool (goodN n))) := by
  refine ⟨fun args w => by kernel_rfl, fun w v hv => ?_⟩
  by_cases h1 : 3 ≤ n
  · by_cases h2 : n ≤ 1024
    · refine enter_ty 14 [Ty.ex (.int .i64 n)] Tryz.func47 rfl (by kernel_rfl) ⟨hv, trivial⟩ fun a hF => ?_
      have hB := Below.refl w.heap.size w
      repeat with_reducible refine wp_seq ?_
      refine' reg_all hF ?_ mixed (by kernel_rfl) ?_
      rotate_left
      · repeat (first | exact Line.nil | ((refine' Line.cons rfl (.run rfl rfl ?_) ?_); (any_goals exact cAssign rfl rfl); rotate_left))
      intro a w1 hF hb hN
      have hBs := hB.size
      replace hB := hB.trans (hb.mono hB.size)
      dsimp only [ext, Option.getD] at hF
      repeat with_reducible first | refine wp_seq ?_ | refine nThen ?_
      refine' reg_all hF ?_ mixed (by kernel_rfl) ?_
      rotate_left
      · repeat (first | exact Line.nil | ((first | refine' Line.cons rfl (.run rfl rfl ?_) ?_ | refine' Line.cons rfl (.yes rfl rfl rfl rfl ?_) ?_); (any_goals (first | exact cMove rfl rfl | exact cAssign rfl rfl | exact OpOk.b (c := true) (cGeq rfl rfl rfl) (decide_eq_true h1) | exact OpOk.b (c := true) (cLeq rfl rfl rfl) (decide_eq_true h2) | exact cRemI rfl rfl rfl three_ne rfl | exact cPickT rfl rfl rfl | exact cEql rfl rfl rfl)); rotate_left))
      intro a w2 hF hb hN
      have hBs := hB.size
      replace hB := hB.trans (hb.mono hB.size)
      dsimp only [ext, Option.getD] at hF
      repeat with_reducible first | refine nThen ?_ | refine wp_ret ?_
      refine ret1 hF rfl rfl fun z hz => ?_
      refine ⟨z, rfl, ?_, hB⟩
      have hz : z = .bool (decide (n.tmod 3 = 0)) := hz
      rw [hz]
      show _ = _
      congr 1
      unfold goodN
      rw [Bool.eq_iff_iff, decide_eq_true_eq, decide_eq_true_eq]
      have := Int.tmod_eq_emod_of_nonneg (a := n) (b := 3) (by omega)
      omega
    · refine enter_ty 14 [Ty.ex (.int .i64 n)] Tryz.func47 rfl (by kernel_rfl) ⟨hv, trivial⟩ fun a hF => ?_
      have hB := Below.refl w.heap.size w
      repeat with_reducible refine wp_seq ?_
      refine' reg_all hF ?_ mixed (by kernel_rfl) ?_
      rotate_left
      · repeat (first | exact Line.nil | ((refine' Line.cons rfl (.run rfl rfl ?_) ?_); (any_goals exact cAssign rfl rfl); rotate_left))
      intro a w1 hF hb hN
      have hBs := hB.size
      replace hB := hB.trans (hb.mono hB.size)
      dsimp only [ext, Option.getD] at hF
      repeat with_reducible first | refine wp_seq ?_ | refine nThen ?_
      refine' reg_all hF ?_ mixed (by kernel_rfl) ?_
      rotate_left
      · repeat (first | exact Line.nil | (refine' Line.cons rfl (.no rfl rfl rfl rfl rfl rfl) ?_; rotate_left) | ((first | refine' Line.cons rfl (.run rfl rfl ?_) ?_ | refine' Line.cons rfl (.yes rfl rfl rfl rfl ?_) ?_); (any_goals (first | exact cMove rfl rfl | exact cAssign rfl rfl | exact OpOk.b (c := true) (cGeq rfl rfl rfl) (decide_eq_true h1) | exact OpOk.b (c := false) (cLeq rfl rfl rfl) (decide_eq_false h2) | exact cPickT rfl rfl rfl | exact cPickF rfl rfl rfl)); rotate_left))
      intro a w2 hF hb hN
      have hBs := hB.size
      replace hB := hB.trans (hb.mono hB.size)
      dsimp only [ext, Option.getD] at hF
      repeat with_reducible first | refine nThen ?_ | refine wp_ret ?_
      refine ret1 hF rfl rfl fun z hz => ?_
      refine ⟨z, rfl, ?_, hB⟩
      rw [show goodN n = false from decide_eq_false (fun h => h2 h.2.1)]
      exact hz
  · refine enter_ty 14 [Ty.ex (.int .i64 n)] Tryz.func47 rfl (by kernel_rfl) ⟨hv, trivial⟩ fun a hF => ?_
    have hB := Below.refl w.heap.size w
    repeat with_reducible refine wp_seq ?_
    refine' reg_all hF ?_ mixed (by kernel_rfl) ?_
    rotate_left
    · repeat (first | exact Line.nil | ((refine' Line.cons rfl (.run rfl rfl ?_) ?_); (any_goals exact cAssign rfl rfl); rotate_left))
    intro a w1 hF hb hN
    have hBs := hB.size
    replace hB := hB.trans (hb.mono hB.size)
    dsimp only [ext, Option.getD] at hF
    repeat with_reducible first | refine wp_seq ?_ | refine nThen ?_
    refine' reg_all hF ?_ mixed (by kernel_rfl) ?_
    rotate_left
    · repeat (first | exact Line.nil | (refine' Line.cons rfl (.no rfl rfl rfl rfl rfl rfl) ?_; rotate_left) | ((refine' Line.cons rfl (.run rfl rfl ?_) ?_); (any_goals (first | exact cMove rfl rfl | exact cAssign rfl rfl | exact OpOk.b (c := false) (cGeq rfl rfl rfl) (decide_eq_false h1) | exact cPickF rfl rfl rfl)); rotate_left))
    intro a w2 hF hb hN
    have hBs := hB.size
    replace hB := hB.trans (hb.mono hB.size)
    dsimp only [ext, Option.getD] at hF
    repeat with_reducible first | refine nThen ?_ | refine wp_ret ?_
    refine ret1 hF rfl rfl fun z hz => ?_
    refine ⟨z, rfl, ?_, hB⟩
    rw [show goodN n = false from decide_eq_false (fun h => h1 h.1)]
    exact hz
theorem sm_getD (x : Sm) (j : Nat) : x.l.getD j 0 < 256 := by
  by_cases h : j < x.l.length
  · simp only [List.getD, List.getElem?_eq_getElem h, Option.getD_some]
    exact x.lt _ (List.getElem_mem h)
  · simp [List.getD, List.getElem?_eq_none (by omega : x.l.length ≤ j)]
theorem enc_drop {x : Sm} {j : Nat} (h : j < 32) : x.enc.drop j = bv (x.l.getD j 0) :: x.enc.drop (j + 1) := by
  have hl : j < x.enc.length := by rw [enc_len]; exact h
  have hl2 : j < x.l.length := by rw [x.len]; exact h
  rw [List.drop_eq_getElem_cons hl]
  congr 1
  simp [Sm.enc, List.getD, List.getElem?_eq_getElem hl2]

set_option maxRecDepth 100000 in
set_option maxHeartbeats 1000000 in
theorem sword_ty (x : Sm) (i : Nat) (hi : i < 4) : Fn2 Tryz.prog 76 (Ty.ex (.agg (u8s x.l))) (Ty.ex (.int .i64 (i : Int))) (Ty.ex (.int .u64 (wordF x.l i 8 : Int))) := by
  refine ⟨fun args w => by kernel_rfl, fun w v u hv hu => ?_⟩
  refine enter_ty 28 [Ty.ex (.agg (u8s x.l)), Ty.ex (.int .i64 (i : Int))] Tryz.func76 rfl (by kernel_rfl) ⟨hv, hu, trivial⟩ fun a hF => ?_
  have hB := Below.refl w.heap.size w
  repeat with_reducible refine wp_seq ?_
  refine' reg_all hF ?_ mixed (by kernel_rfl) ?_
  rotate_left
  · repeat (first | exact Line.nil | ((refine' Line.cons rfl (.run rfl rfl ?_) ?_); (any_goals (first | exact cAssign rfl rfl | exact cBoxSum rfl rfl)); rotate_left))
  intro a w1 hF hb hN
  have hBs := hB.size
  replace hB := hB.trans (hb.mono hB.size)
  dsimp only [ext, Option.getD] at hF
  repeat with_reducible first | refine wp_seq ?_ | refine nThen ?_
  refine' reg_all hF ?_ mixed (by kernel_rfl) ?_
  rotate_left
  · repeat (first | exact Line.nil | ((first | refine' Line.cons rfl (.run rfl rfl ?_) ?_ | refine' Line.cons rfl (.yes rfl rfl rfl rfl ?_) ?_); (any_goals (first | exact cMove rfl rfl | exact OpOk.b (c := false) (cLss rfl rfl rfl) (decide_eq_false (by omega)) | exact OpOk.b (c := false) (cGeq rfl rfl rfl) (decide_eq_false (by omega)) | exact cPickF rfl rfl rfl)); rotate_left))
  intro a w2 hF hb hN
  have hBs := hB.size
  replace hB := hB.trans (hb.mono hB.size)
  dsimp only [ext, Option.getD] at hF
  repeat with_reducible refine nThen ?_
  refine cond_f hF rfl ?_
  repeat with_reducible first | refine wp_seq ?_ | refine nThen ?_ | refine wp_skip ?_
  refine' reg_all hF ?_ mixed (by kernel_rfl) ?_
  rotate_left
  · repeat (first | exact Line.nil | ((refine' Line.cons rfl (.run rfl rfl ?_) ?_); (any_goals exact cAssign rfl rfl); rotate_left))
  intro a w3 hF hb hN
  have hBs := hB.size
  replace hB := hB.trans (hb.mono hB.size)
  dsimp only [ext, Option.getD] at hF
  repeat with_reducible first | refine wp_seq ?_ | refine nThen ?_
  refine' reg_all hF ?_ mixed (by kernel_rfl) ?_
  rotate_left
  · repeat (first | exact Line.nil | ((refine' Line.cons rfl (.run rfl rfl ?_) ?_); (any_goals exact cAssign rfl rfl); rotate_left))
  intro a w4 hF hb hN
  have hBs := hB.size
  replace hB := hB.trans (hb.mono hB.size)
  dsimp only [ext, Option.getD] at hF
  repeat with_reducible first | refine nThen ?_ | refine wp_block ?_
  refine loop_ty (fun m a wr => ∃ t : Nat, t + m = 8 ∧ Fr 28 [(2, Ty.at_ 28 x.enc), (1, Ty.ex (.int .i64 (i : Int))), (5, Ty.ex (.int .u64 (wordF x.l i t : Int))), (6, Ty.ex (.int .i64 (7 - (t : Int))))] a wr ∧ Below w.heap.size w wr) 8 ?_ ?_
  · exact ⟨0, by omega, hF.keep [2, 1, 5, 6], hB⟩
  clear hF hB
  rintro m a wr ⟨t, ht, hF, hB⟩
  repeat with_reducible refine wp_seq ?_
  refine' reg_all hF ?_ mixed (by kernel_rfl) ?_
  rotate_left
  · repeat (first | exact Line.nil | ((refine' Line.cons rfl (.run rfl rfl ?_) ?_); (any_goals (first | exact cMove rfl rfl | exact cGeq rfl rfl rfl)); rotate_left))
  intro a w5 hF hb hN
  have hBs := hB.size
  replace hB := hB.trans (hb.mono hB.size)
  dsimp only [ext, Option.getD] at hF
  repeat with_reducible refine nThen ?_
  refine cond_ty hF rfl (fun hlt => ?_) (fun hge => ?_)
  · have hlt : t < 8 := by have := of_decide_eq_true hlt; omega
    have hw := wordF_lt x.l i (sm_getD x) t
    have hw8 : wordF x.l i t < 72057594037927936 := Nat.lt_of_lt_of_le hw (Nat.le_trans (Nat.pow_le_pow_right (by decide) (show t ≤ 7 by omega)) (by decide))
    have hb8 := sm_getD x (8 * i + (7 - t))
    have hor := or_byte (wordF x.l i t) (x.l.getD (8 * i + (7 - t)) 0) hw8 hb8
    have hnext : wordF x.l i (t + 1) = wordF x.l i t * 256 + x.l.getD (8 * i + (7 - t)) 0 := rfl
    have hdr := enc_drop (x := x) (j := 8 * i + (7 - t)) (by omega)
    repeat with_reducible first | refine wp_seq ?_ | refine nThen ?_ | refine wp_skip ?_ | refine wp_block ?_
    generalize wordF x.l i t = W1 at *
    generalize hW2 : wordF x.l i (t + 1) = W2 at *
    generalize x.l.getD (8 * i + (7 - t)) 0 = B at *
    refine' reg_all hF ?_ mixed (by kernel_rfl) ?_
    rotate_left
    · repeat (first | exact Line.nil | ((refine' Line.cons rfl (.run rfl rfl ?_) ?_); (any_goals (first | exact cMove rfl rfl | exact cAssign rfl rfl | exact cShl (r := ((W1 : Int) * 256)) rfl rfl rfl (by decide) (by simp [IntKind.wrap, IntKind.bits, IntKind.signed]; omega) | exact cMul (r := (8 * (i : Int))) rfl rfl rfl (by omega) | exact cAdd (r := ((8 * i + (7 - t) : Nat) : Int)) rfl rfl rfl (by omega) | exact cIndexArr (k := 8 * i + (7 - t)) rfl (.t rfl) rfl Tryz.underlying28 sizeU (by omega) | exact cLoad1 (u := bv B) rfl (Has.c (.t rfl) (fun W v h => hdr ▸ h)) (pts_at _ _) Tryz.underlying5 rfl | exact cConvR (r := (B : Int)) rfl rfl Tryz.underlying5 Tryz.underlying31 (by simp [IntKind.wrap, IntKind.bits, IntKind.signed]; omega) | exact cOr rfl rfl rfl hor)); rotate_left))
    intro a w6 hF hb hN
    have hBs := hB.size
    replace hB := hB.trans (hb.mono hB.size)
    dsimp only [ext, Option.getD] at hF
    repeat with_reducible first | refine nThen ?_ | refine nBlk ?_
    refine' reg_all hF ?_ mixed (by kernel_rfl) ?_
    rotate_left
    · repeat (first | exact Line.nil | ((refine' Line.cons rfl (.run rfl rfl ?_) ?_); (any_goals (first | exact cMove rfl rfl | exact cAssign rfl rfl | exact cSub (r := (7 - ((t + 1 : Nat) : Int))) rfl rfl rfl (by omega))); rotate_left))
    intro a w7 hF hb hN
    have hBs := hB.size
    replace hB := hB.trans (hb.mono hB.size)
    dsimp only [ext, Option.getD] at hF
    repeat with_reducible refine nThen ?_
    refine ⟨m - 1, by omega, t + 1, by omega, ?_, hB⟩
    rw [hW2, hnext]
    exact hF.keep [2, 1, 5, 6]
  · have hge : ¬ t < 8 := by have := of_decide_eq_false hge; omega
    obtain rfl : t = 8 := by omega
    repeat with_reducible first | refine wp_seq ?_ | refine nThen ?_ | refine wp_exit ?_ | refine xThen ?_ | refine xHere ?_
    refine' reg_all hF ?_ mixed (by kernel_rfl) ?_
    rotate_left
    · repeat (first | exact Line.nil | ((refine' Line.cons rfl (.run rfl rfl ?_) ?_); (any_goals (first | exact cMove rfl rfl | exact cAssign rfl rfl)); rotate_left))
    intro a w6 hF hb hN
    have hBs := hB.size
    replace hB := hB.trans (hb.mono hB.size)
    dsimp only [ext, Option.getD] at hF
    repeat with_reducible first | refine nThen ?_ | refine wp_ret ?_
    refine ret1 hF rfl rfl fun z hz => ?_
    exact ⟨z, rfl, hz, hB⟩

end Go.Proofs.YtmefpnklgfhggaaGreatDoor

/- Layer 14 by types: TrailingZeros64, Level. -/
namespace Go.Proofs.YtmefpnklgfhggaaGreatDoor
open Go.RowKit

section
variable {P : Program} {w0 : World} {Γ : Ctx} {o : Oper}
theorem cNegV {t : TypeId} {x : Operand} {k : IntKind} {m : Int} (ho : o.op = .unOp .neg t x) (hx : OpT Γ x (Ty.ex (.int k m))) : OpOk P w0 Γ o (Ty.ex (.int k (k.wrap (-m)))) :=
  .val fun a w _ hs => by
    obtain ⟨v, h1, h2⟩ := hs x _ (by simp [ho, Op.operands]) hx
    have h2 : v = .int k m := h2
    exact ⟨_, rfl, by unfold execOp; simp [ho, h1, h2, Op.unary, Op.intArith]⟩
theorem cAnd {t t2 : TypeId} {x y : Operand} {k : IntKind} {m n r : Int} (ho : o.op = .binOp .and t x y t2) (hx : OpT Γ x (Ty.ex (.int k m))) (hy : OpT Γ y (Ty.ex (.int k n))) (hr : bits .and k m n = r) : OpOk P w0 Γ o (Ty.ex (.int k r)) :=
  cBin ho hx hy fun w => by subst hr; simp [eqGuard, binOp, Op.intBits, bits]
theorem cNegR {t : TypeId} {x : Operand} {k : IntKind} {m r : Int} (ho : o.op = .unOp .neg t x) (hx : OpT Γ x (Ty.ex (.int k m))) (hr : k.wrap (-m) = r) : OpOk P w0 Γ o (Ty.ex (.int k r)) := by
  have h := cNegV (P := P) (w0 := w0) ho hx
  rwa [hr] at h
theorem cMulR {t t2 : TypeId} {x y : Operand} {k : IntKind} {m n r : Int} (ho : o.op = .binOp .mul t x y t2) (hx : OpT Γ x (Ty.ex (.int k m))) (hy : OpT Γ y (Ty.ex (.int k n))) (hr : k.wrap (m * n) = r) : OpOk P w0 Γ o (Ty.ex (.int k r)) := by
  have h := cMulW (P := P) (w0 := w0) ho hx hy
  rwa [hr] at h
theorem cIndexArrR {t ea : TypeId} {x ix : Operand} {n k : Nat} {kd : IntKind} {xs : List Value} (ho : o.op = .indexAddr t x ix) (hx : Has w0 Γ x (Ty.atR xs)) (hi : OpT Γ ix (Ty.ex (.int kd (k : Int)))) (hu : P.underlying t = some (.array n ea)) (hz : (P.info? ea).map (·.size) = some 1) (hk : k < n) (hne : k < xs.length) : OpOk P w0 Γ o (Ty.atR (xs.drop k)) :=
  .val fun a w hb hs => by
    obtain ⟨v, h1, ad, rfl, h2, h3⟩ := hx.see hs (by simp [ho, Op.operands]) hb
    obtain ⟨i, h5, h6⟩ := hs ix _ (by simp [ho, Op.operands]) hi
    have h6 : i = .int kd (k : Int) := h6
    obtain ⟨inf, hinf, hsz⟩ := Option.map_eq_some_iff.1 hz
    refine ⟨_, ⟨ad.add k, rfl, rd_add h2 k, by simp; omega⟩, ?_⟩
    unfold execOp
    simp [ho, h1, h5, h6, Instr.indexAt, Instr.sureAddr, asIntOf, run_underlying hu, hk, sizeOf, typeInfo, hinf, hsz]
theorem cMinI {t1 t2 : TypeId} {x : Operand} {m n : Int} (ho : o.op = .call { callee := .builtin .min, args := #[x, .const (.int .i64 n)], argTypes := #[t1, t2] }) (hx : OpT Γ x (Ty.ex (.int .i64 m))) : OpOk P w0 Γ o (Ty.ex (.int .i64 (min m n))) :=
  .val fun a w _ hs => by
    obtain ⟨v, h1, h2⟩ := hs x _ (by simp [ho, Op.operands, Call.operands]) hx
    have h2 : v = .int .i64 m := h2
    refine ⟨_, rfl, ?_⟩
    unfold execOp
    have hc : a.eval (.const (.int .i64 n)) = .int .i64 n := rfl
    simp [ho, h1, h2, hc, resolve, invoke, builtin, Builtin.min_, Builtin.min2]
    omega
end
def TabOk (w : World) : Prop := (Ty.atR (Lib.deBruijn64tab.map bv)).p w (.pointer (some ⟨0, 0, none⟩))
theorem TabOk.below {w w' : World} (h : TabOk w) (hb : Below w.heap.size w w') : TabOk w' := (Ty.atR (Lib.deBruijn64tab.map bv)).below h hb
theorem e58 : (2 : Int) ^ (58 : Int).toNat = 288230376151711744 := by decide
theorem n58 : (0 : Int) ≤ 58 ∧ (58 : Int).toNat ≤ IntKind.u64.bits := by decide
theorem map_len {L : List Nat} {I n : Nat} (hl : L.length = n) (hi : I < n) : I < (L.map bv).length := by rw [List.length_map, hl]; exact hi
theorem drop_tab {L : List Nat} {I K n : Nat} (hl : L.length = n) (hi : I < n) (h : L.getD I 0 = K) : (L.map bv).drop I = bv K :: (L.map bv).drop (I + 1) := by
  have h1 : I < (L.map bv).length := map_len hl hi
  rw [List.drop_eq_getElem_cons h1]
  congr 1
  rw [List.getElem_map]
  have hl2 : I < L.length := by rw [hl]; exact hi
  simp only [List.getD, List.getElem?_eq_getElem hl2, Option.getD_some] at h
  rw [h]
theorem tab_len : Lib.deBruijn64tab.length = 64 := by decide
set_option maxRecDepth 100000 in
theorem tz_zero (w : World) : Ret Tryz.prog 75 #[.int .u64 0] w (Ty.ex (.int .i64 64)) := by
    refine enter_ty 14 [Ty.ex (.int .u64 0)] Tryz.func75 rfl (by kernel_rfl) ⟨rfl, trivial⟩ fun a hF => ?_
    have hB := Below.refl w.heap.size w
    repeat with_reducible first | refine wp_seq ?_ | refine nThen ?_ | refine wp_ret ?_ | refine rThen ?_
    refine' reg_all hF ?_ mixed (by kernel_rfl) ?_
    rotate_left
    · repeat (first
          | exact Line.nil
          | ((refine' Line.cons rfl (.run rfl rfl ?_) ?_)
             any_goals (first | exact cMove rfl rfl | exact cAssign rfl rfl | exact cEql rfl rfl rfl)
             rotate_left))
    intro a w1 hF hb hN
    have hBs := hB.size
    replace hB := hB.trans (hb.mono hB.size)
    dsimp only [ext, Option.getD] at hF
    repeat with_reducible first | refine wp_seq ?_ | refine nThen ?_ | refine wp_ret ?_ | refine rThen ?_
    refine' reg_all hF ?_ mixed (by kernel_rfl) ?_
    rotate_left
    · repeat (first
          | exact Line.nil
          | ((refine' Line.cons rfl (.run rfl rfl ?_) ?_)
             any_goals (first | exact cMove rfl rfl | exact cAssign rfl rfl | exact OpOk.b (c := true) (cEql rfl rfl rfl) rfl | exact cEql rfl rfl rfl)
             rotate_left))
    intro a w2 hF hb hN
    have hBs := hB.size
    replace hB := hB.trans (hb.mono hB.size)
    dsimp only [ext, Option.getD] at hF
    repeat with_reducible first | refine wp_seq ?_ | refine nThen ?_ | refine wp_ret ?_ | refine rThen ?_
    refine cond_t hF rfl ?_
    repeat with_reducible first | refine wp_seq ?_ | refine nThen ?_ | refine wp_ret ?_ | refine rThen ?_
    refine' reg_all hF ?_ mixed (by kernel_rfl) ?_
    rotate_left
    · repeat (first
          | exact Line.nil
          | ((refine' Line.cons rfl (.run rfl rfl ?_) ?_)
             any_goals (first | exact cMove rfl rfl | exact cAssign rfl rfl | exact cEql rfl rfl rfl)
             rotate_left))
    intro a w3 hF hb hN
    have hBs := hB.size
    replace hB := hB.trans (hb.mono hB.size)
    dsimp only [ext, Option.getD] at hF
    repeat with_reducible first | refine wp_seq ?_ | refine nThen ?_ | refine wp_ret ?_ | refine rThen ?_
    refine ret1 hF rfl rfl fun z hz => ?_
    exact ⟨z, rfl, hz, hB⟩
set_option maxRecDepth 100000 in
theorem tz_ret (x : Nat) (hx : x < 18446744073709551616) (w : World) (hT0 : TabOk w) : Ret Tryz.prog 75 #[.int .u64 (x : Int)] w (Ty.ex (.int .i64 (Lib.ctz 64 x : Nat))) := by
  have hT := hT0
  unfold TabOk at hT
  clear hT0
  by_cases h0 : x = 0
  · subst h0
    exact tz_zero w
  · obtain ⟨hlow, hk⟩ := Lib.lowest_bit 64 x h0 hx
    have hkey := tz64_key x _ hx h0 hlow
    obtain ⟨hi, htab⟩ := Lib.deBruijn64_at _ hk
    generalize Lib.ctz 64 x = K at *
    clear hlow
    generalize hN1 : IntKind.u64.wrap (-(x : Int)) = N1 at hkey
    generalize hN2 : bits BinOp.and IntKind.u64 (x : Int) N1 = N2 at hkey
    generalize hN3 : IntKind.u64.wrap (N2 * 285870213051353865) = N3 at hkey
    have hN4 : N3.fdiv (2 ^ (58 : Int).toNat) = N3 / 288230376151711744 := by rw [e58, Int.fdiv_eq_ediv_of_nonneg _ (by decide)]
    rw [← hN4] at hkey
    clear hN4
    generalize 2 ^ K * 285870213051353865 % 18446744073709551616 / 288230376151711744 = I at *
    have hdr := drop_tab tab_len hi htab
    have htl : I < (Lib.deBruijn64tab.map bv).length := map_len tab_len hi
    generalize Lib.deBruijn64tab.map bv = TL at *
    refine enter_ty 14 [Ty.ex (.int .u64 (x : Int))] Tryz.func75 rfl (by kernel_rfl) ⟨rfl, trivial⟩ fun a hF => ?_
    have hB := Below.refl w.heap.size w
    repeat with_reducible first | refine wp_seq ?_ | refine nThen ?_ | refine wp_skip ?_ | refine wp_ret ?_
    refine' reg_all hF ?_ mixed (by kernel_rfl) ?_
    rotate_left
    · repeat (first
          | exact Line.nil
          | ((refine' Line.cons rfl (.run rfl rfl ?_) ?_)
             any_goals (first | exact cMove rfl rfl | exact cAssign rfl rfl | exact cEql rfl rfl rfl)
             rotate_left))
    intro a w1 hF hb hN
    have hBs := hB.size
    replace hB := hB.trans (hb.mono hB.size)
    dsimp only [ext, Option.getD] at hF
    repeat with_reducible first | refine wp_seq ?_ | refine nThen ?_ | refine wp_skip ?_ | refine wp_ret ?_
    refine' reg_all hF ?_ mixed (by kernel_rfl) ?_
    rotate_left
    · repeat (first
          | exact Line.nil
          | ((refine' Line.cons rfl (.run rfl rfl ?_) ?_)
             any_goals (first | exact cMove rfl rfl | exact cAssign rfl rfl | exact OpOk.b (c := false) (cEql rfl rfl rfl) (decide_eq_false (by omega)) | exact cEql rfl rfl rfl)
             rotate_left))
    intro a w2 hF hb hN
    have hBs := hB.size
    replace hB := hB.trans (hb.mono hB.size)
    dsimp only [ext, Option.getD] at hF
    repeat with_reducible first | refine wp_seq ?_ | refine nThen ?_ | refine wp_skip ?_ | refine wp_ret ?_
    refine cond_f hF rfl ?_
    repeat with_reducible first | refine wp_seq ?_ | refine nThen ?_ | refine wp_skip ?_ | refine wp_ret ?_
    have hT2 := (Ty.atR TL).below hT hB
    refine' reg_all hF ?_ mixed (by kernel_rfl) ?_
    rotate_left
    · repeat (first
          | exact Line.nil
          | ((refine' Line.cons rfl (.run rfl rfl ?_) ?_)
             any_goals (first | exact cMove rfl rfl | exact cAssign rfl rfl | exact cNegR rfl rfl hN1 | exact cAnd rfl rfl rfl hN2 | exact cMulR rfl rfl rfl hN3 | exact cShr (r := (I : Int)) rfl rfl rfl n58 hkey | exact cIndexArrR (k := I) rfl (.l rfl hT2) rfl Tryz.underlying183 sizeU hi htl | exact cLoad1 (u := bv K) rfl (Has.c (.t rfl) (fun W v h => hdr ▸ h)) (pts_atR _) Tryz.underlying5 rfl | exact cConvR (r := (K : Int)) rfl rfl Tryz.underlying5 Tryz.underlying3 (by simp [IntKind.wrap, IntKind.bits, IntKind.signed]; omega) | exact cEql rfl rfl rfl)
             rotate_left))
    intro a w3 hF hb hN
    have hBs := hB.size
    replace hB := hB.trans (hb.mono hB.size)
    dsimp only [ext, Option.getD] at hF
    repeat with_reducible first | refine wp_seq ?_ | refine nThen ?_ | refine wp_skip ?_ | refine wp_ret ?_
    refine ret1 hF rfl rfl fun z hz => ?_
    exact ⟨z, rfl, hz, hB⟩
end Go.Proofs.YtmefpnklgfhggaaGreatDoor

/- Walks: the reference's keys; turned at all widths in use. -/
namespace Go.Proofs.YtmefpnklgfhggaaGreatDoor
open Go.RowKit

end Go.Proofs.YtmefpnklgfhggaaGreatDoor

/- The walk of the reference's block. -/
namespace Go.Proofs.YtmefpnklgfhggaaGreatDoor
open Go.RowKit

end Go.Proofs.YtmefpnklgfhggaaGreatDoor

/- The walk of tallymanref1.Xor. -/
namespace Go.Proofs.YtmefpnklgfhggaaGreatDoor
open Go.RowKit

end Go.Proofs.YtmefpnklgfhggaaGreatDoor

/- append to a slice of bytes of the call's own. -/
namespace Go.Proofs.YtmefpnklgfhggaaGreatDoor
open Go.RowKit

section
variable {ops : Array Oper} {rest : List Oper} {o : Oper} {a : Act} {w : World} {K : Act → World → Prop} {Q : Exit → Act → World → Prop}
end
end Go.Proofs.YtmefpnklgfhggaaGreatDoor

/- A load of a known run, as a still step. -/
namespace Go.Proofs.YtmefpnklgfhggaaGreatDoor
open Go.RowKit

end Go.Proofs.YtmefpnklgfhggaaGreatDoor

/- Words: slices of slices of bytes. -/
namespace Go.Proofs.YtmefpnklgfhggaaGreatDoor
open Go.RowKit

theorem later {w w' : World} {p : Addr} {v : Value} (hb : Below w.heap.size w w') (h : w.cell? p = some v) : w'.cell? p = some v :=
  (hb.cell (World.block_lt_of_cell? w _ h)).trans h

end Go.Proofs.YtmefpnklgfhggaaGreatDoor

/- The walk of the reference's Of. -/
namespace Go.Proofs.YtmefpnklgfhggaaGreatDoor
open Go.RowKit

end Go.Proofs.YtmefpnklgfhggaaGreatDoor

/- Layer 14 by types: PutSum, Level. -/
namespace Go.Proofs.YtmefpnklgfhggaaGreatDoor
open Go.RowKit

/-- How often a number may be halved, at most f times. -/
def halves : Nat → Nat → Nat
  | 0, _ => 0
  | f + 1, x => if x % 2 = 0 then 1 + halves f (x / 2) else 0
theorem halves_le : ∀ f x, halves f x ≤ f
  | 0, _ => Nat.le_refl _
  | f + 1, x => by
    have := halves_le f (x / 2)
    unfold halves
    split <;> omega
theorem ctz_halves : ∀ (g f x : Nat), g ≤ f → 0 < x → min (Lib.ctzFrom f x) g = halves g x
  | 0, f, x, _, _ => by simp [halves]
  | g + 1, 0, x, h, _ => by omega
  | g + 1, f + 1, x, h, h0 => by
    unfold Lib.ctzFrom halves
    by_cases h2 : x % 2 = 1
    · rw [if_pos h2, if_neg (by omega)]; omega
    · rw [if_neg h2, if_pos (by omega)]
      have := ctz_halves g f (x / 2) (by omega) (by omega)
      omega
theorem halves_zero : ∀ g, halves g 0 = g
  | 0 => rfl
  | g + 1 => by
    unfold halves
    rw [if_pos (by rfl), show 0 / 2 = 0 from rfl, halves_zero g]
    omega
theorem ctz_nine (x : Nat) : min (Lib.ctz 64 x) 9 = halves 9 x := by
  by_cases h : x = 0
  · subst h; rw [halves_zero]; rfl
  · have e : Lib.ctz 64 x = Lib.ctzFrom 64 x := by simp [Lib.ctz, h]
    rw [e]
    exact ctz_halves 9 64 x (by omega) (by omega)
/-- A sum's level. -/
def levelS (x : Sm) : Nat := halves 9 (wordF (shaS (76 :: x.l)).l 3 8)
theorem word_lt (x : Sm) (i : Nat) : wordF x.l i 8 < 18446744073709551616 := Nat.lt_of_lt_of_le (wordF_lt x.l i (sm_getD x) 8) (by decide)

set_option maxRecDepth 100000 in
theorem level_ret (x : Sm) (w : World) (hT : TabOk w) : Ret Tryz.prog 44 #[.agg (u8s x.l)] w (Ty.ex (.int .i64 (levelS x : Nat))) := by
  have hO := sumOf2_ty (e := 95) (τ := Ty.sl 5 1 [bv 76]) (σ := Ty.sl 28 32 x.enc) [76] x.l (reads_sl _ _ _) (by rw [x.len]; exact reads_sl _ _ _) (by simp) x.lt (by rw [x.len]; decide)
  have hl : levelS x = min (Lib.ctz 64 (wordF (shaS (76 :: x.l)).l 3 8)) 9 := (ctz_nine _).symm
  rw [hl]
  have hY : shaL ([76] ++ x.l) = (shaS (76 :: x.l)).l := rfl
  rw [hY] at hO
  generalize shaS (76 :: x.l) = Y at *
  clear hY hl
  have hW := sword_ty Y 3 (by decide)
  have hWl := word_lt Y 3
  generalize wordF Y.l 3 8 = V at *
  have heT : Enters Tryz.prog 75 := fun args w => by kernel_rfl
  refine enter_ty 12 [Ty.ex (.agg (u8s x.l))] Tryz.func44 rfl (by kernel_rfl) ⟨rfl, trivial⟩ fun a hF => ?_
  have hB := Below.refl w.heap.size w
  repeat with_reducible first | refine wp_seq ?_ | refine nThen ?_ | refine wp_ret ?_
  refine' reg_all hF ?_ mixed (by kernel_rfl) ?_
  rotate_left
  · repeat (first
        | exact Line.nil
        | ((refine' Line.cons rfl (.run rfl rfl ?_) ?_)
           any_goals (first | exact cAssign rfl rfl | exact cBoxSum rfl rfl)
           rotate_left))
  intro a w1 hF hb hN
  have hBs := hB.size
  replace hB := hB.trans (hb.mono hB.size)
  dsimp only [ext, Option.getD] at hF
  repeat with_reducible first | refine wp_seq ?_ | refine nThen ?_ | refine wp_ret ?_
  refine' region_ty 5 mixed (by kernel_rfl) hF ?_ ?_
  rotate_left
  · simp only [List.take_succ_cons, List.take_zero]
    repeat (first
        | exact Line.nil
        | (refine' Line.cons rfl (.new rfl rfl (run_alloc_i infoS) rfl) ?_; rotate_left)
        | ((refine' Line.cons rfl (.run rfl rfl ?_) ?_)
           any_goals (first | exact cAssign rfl rfl | exact cBuildV (vs := [.int .u8 76]) rfl (parts1v rfl rfl) Tryz.underlying95 infoU8 rfl (by simp [Value.cells]) (by decide) (by simp [maxLen]) | exact cSliceArr rfl (.t rfl) Tryz.underlying28 sizeU (by simp [maxLen]) | exact cBuildT (τs := [Ty.sl 5 1 [bv 76], Ty.sl 28 32 x.enc]) rfl (partsT2 rfl (.t rfl) (.t rfl) (Ty.sl_isSl _ _ _) (Ty.sl_isSl _ _ _)) Tryz.underlying123 infoB rfl | exact cCall1 rfl rfl hO)
           rotate_left))
  intro a w2 hF hb hN
  have hBs := hB.size
  replace hB := hB.trans (hb.mono hB.size)
  simp only [List.take_succ_cons, List.take_zero, List.drop_succ_cons, List.drop_zero] at hF hN ⊢
  dsimp only [ext, Option.getD] at hF
  obtain ⟨z, ⟨gx, rfl, hgx, hbx⟩, hF⟩ := hF.open (s := 3) rfl
  have hgx : w1.heap.size ≤ gx := hgx
  have hw1 : w.heap.size ≤ w1.heap.size := hBs
  refine tlStoreV (Δ := [(3, Ty.ex (.pointer (some ⟨gx, 0, none⟩)))]) hF rfl rfl rfl rfl (hF.getEx (s := 7) rfl) hbx (by show (u8s _).size = (u8s _).size; rw [u8s_size, u8s_size, Sm.len]; rfl) (by show _ = some (u8s _).size; rw [u8s_size, Sm.len]; exact sizeS) (u8s_one _) (hF.keep [3]) rfl ?_
  intro w3 hF hbx hkx
  refine wpList_nil ?_
  repeat with_reducible first | refine wp_seq ?_ | refine nThen ?_ | refine wp_ret ?_
  replace hB := below_own hB hkx (by intro y hy; simp only [List.mem_singleton] at hy; omega)
  have hax : (Ty.at_ 28 Y.enc).p w3 (.pointer (some ⟨gx, 0, none⟩)) := by
    have h := blk_at hbx
    rwa [show (Value.agg (u8s Y.l)).cells.toList = Y.enc from u8s_list _] at h
  have hT3 := hT.below hB
  refine' reg_all hF ?_ mixed (by kernel_rfl) ?_
  rotate_left
  · repeat (first
        | exact Line.nil
        | ((refine' Line.cons rfl (.run rfl rfl ?_) ?_)
           any_goals (first | exact cAssign rfl rfl | exact cLoadSum rfl (.l rfl hax) Tryz.underlying28 sizeS | exact cCall2 rfl rfl rfl hW | exact cCallX1 (f := 75) (v := .int .u64 (V : Int)) rfl rfl heT (fun W hb => tz_ret V hWl W (hT3.below hb)) | exact cMinI rfl rfl)
           rotate_left))
  intro a w4 hF hb hN
  have hBs := hB.size
  replace hB := hB.trans (hb.mono hB.size)
  dsimp only [ext, Option.getD] at hF
  repeat with_reducible first | refine wp_seq ?_ | refine nThen ?_ | refine wp_ret ?_
  refine ret1 hF rfl rfl fun z hz => ?_
  refine ⟨z, rfl, ?_, hB⟩
  have hz : z = .int .i64 (min ((Lib.ctz 64 V : Nat) : Int) 9) := hz
  rw [hz]
  show _ = _
  congr 1
  omega
end Go.Proofs.YtmefpnklgfhggaaGreatDoor

/- Layer 14 by types: PutSum, the document's Level. -/
namespace Go.Proofs.YtmefpnklgfhggaaGreatDoor
open Go.RowKit

theorem cBuildB1 {w0 : World} {Γ : Ctx} {o : Oper} {c : Value} (ho : o.op = .buildSlice 95 1 #[(0, .const c)]) (hc : c.cells = #[c]) : OpOk Tryz.prog w0 Γ o (Ty.seg w0 5 1 1 [c]) :=
  .new fun a w hb hs => by
    have hr := run_buildSlice (P := Tryz.prog) (t := 95) 1 [c] Tryz.underlying95 infoU8 rfl (by simp [hc]) (by decide) w
    have h1 : ([c].map fun v => v.cells.toList).flatten.toArray = #[c] := by simp [hc]
    rw [h1] at hr
    refine ⟨.slice (some ⟨w.heap.size, 0, none⟩) 1 1, _, ⟨[w.heap.size], Seg.ofBlk (Blk.new w 5 #[c]) rfl (by simp [maxLen]), by simpa using hb.size⟩, ((Keeps.refl [] w).alloc _).below, ?_⟩
    unfold execOp
    simp only [ho]
    rw [show ((#[(0, (.const c : Operand))] : Array (Nat × Operand)).map fun (i, x) => (i, a.eval x)) = (([c]).zipIdx.map fun p => (p.2, p.1)).toArray by simp [Act.eval], Sem.run_bind, hr]
    rfl
theorem cRemU {P : Program} {w0 : World} {Γ : Ctx} {o : Oper} {t t2 : TypeId} {x y : Operand} {k : IntKind} {m n r : Nat} (ho : o.op = .binOp .rem t x y t2) (hx : OpT Γ x (Ty.ex (.int k (m : Int)))) (hy : OpT Γ y (Ty.ex (.int k (n : Int)))) (hn : 0 < n) (hr : m % n = r) : OpOk P w0 Γ o (Ty.ex (.int k (r : Int))) := by
  have h := cRem (P := P) (w0 := w0) ho hx hy (by omega)
  rwa [← Int.ofNat_tmod, hr] at h
end Go.Proofs.YtmefpnklgfhggaaGreatDoor

/- Layer 14 by types: place.Of. -/
namespace Go.Proofs.YtmefpnklgfhggaaGreatDoor
open Go.RowKit

def leB (s : Nat) : Nat → List Nat
  | 0 => []
  | k + 1 => leB s k ++ [s / 256 ^ k % 256]
theorem leB_len (s : Nat) : ∀ k, (leB s k).length = k
  | 0 => rfl
  | k + 1 => by rw [leB, List.length_append, leB_len s k]; rfl
theorem leB_lt (s : Nat) : ∀ k, ∀ x ∈ leB s k, x < 256
  | 0, x, h => by simp [leB] at h
  | k + 1, x, h => by
    rw [leB, List.mem_append] at h
    rcases h with h | h
    · exact leB_lt s k x h
    · simp at h; omega
def ivn (k : Nat) : Value := .int .i64 (k : Int)
def plc (s : Sm) (p : Nat) : Nat → List Nat
  | 0 => []
  | k + 1 => plc s p k ++ [k * p + wordF s.l k 8 % p]
theorem plc_len (s : Sm) (p : Nat) : ∀ k, (plc s p k).length = k
  | 0 => rfl
  | k + 1 => by rw [plc, List.length_append, plc_len s p k]; rfl
def placeS (seed : Nat) (x : Sm) : Sm := shaS ((80 :: leB seed 8) ++ x.l)
def placesN (seed : Nat) (n : Int) (x : Sm) : List Nat := if goodN n then plc (placeS seed x) (n.toNat / 3) 3 else []
theorem infoInt : (Tryz.prog.info? 3).map (fun i => (i.zero, i.size, i.bytes)) = some (some (.int .i64 0), 1, 8) := by kernel_rfl
theorem cQuoI {P : Program} {w0 : World} {Γ : Ctx} {o : Oper} {t t2 : TypeId} {x y : Operand} {m n r : Nat} (ho : o.op = .binOp .quo t x y t2) (hx : OpT Γ x (Ty.ex (.int .i64 (m : Int)))) (hy : OpT Γ y (Ty.ex (.int .i64 (n : Int)))) (hn : 0 < n) (hr : m / n = r) (hb : r ≤ 9223372036854775807) : OpOk P w0 Γ o (Ty.ex (.int .i64 (r : Int))) := by
  have h := cQuoW (P := P) (w0 := w0) ho hx hy (by omega)
  rwa [← Int.ofNat_tdiv, hr, show IntKind.i64.wrap (r : Int) = r from IntWalk.i64_in _ (by omega)] at h
theorem e8 : (2 : Int) ^ (8 : Int).toNat = 256 := by decide
theorem n8 : (0 : Int) ≤ 8 ∧ (8 : Int).toNat ≤ IntKind.u64.bits := by decide
theorem shr8 (Z : Nat) : ((Z : Int)).fdiv (2 ^ (8 : Int).toNat) = ((Z / 256 : Nat) : Int) := by rw [e8, Int.fdiv_eq_ediv_of_nonneg _ (by decide)]; omega

set_option maxRecDepth 100000 in
set_option maxHeartbeats 2000000 in
theorem places_ty (seed : Nat) (n : Int) (x : Sm) (hsd : seed < 18446744073709551616) : Fn3 Tryz.prog 45 (Ty.ex (.int .u64 (seed : Int))) (Ty.ex (.int .i64 n)) (Ty.ex (.agg (u8s x.l))) (Ty.sl 3 (placesN seed n x).length ((placesN seed n x).map ivn)) := by
  refine ⟨fun args w => by kernel_rfl, fun w v u q hv hu hq => ?_⟩
  have hg := good14_ty n
  by_cases hgn : goodN n = true
  rotate_left
  · have hgn : goodN n = false := by simpa using hgn
    have e : placesN seed n x = [] := by unfold placesN; rw [hgn]; rfl
    rw [e]
    rw [hgn] at hg
    refine enter_ty 51 [Ty.ex (.int .u64 (seed : Int)), Ty.ex (.int .i64 n), Ty.ex (.agg (u8s x.l))] Tryz.func45 rfl (by kernel_rfl) ⟨hv, hu, hq, trivial⟩ fun a hF => ?_
    have hB := Below.refl w.heap.size w
    repeat with_reducible refine wp_seq ?_
    refine' reg_all hF ?_ mixed (by kernel_rfl) ?_
    rotate_left
    · repeat (first | exact Line.nil | ((refine' Line.cons rfl (.run rfl rfl ?_) ?_); (any_goals (first | exact cAssign rfl rfl | exact cBoxSum rfl rfl)); rotate_left))
    intro a w1 hF hb hN
    have hBs := hB.size
    replace hB := hB.trans (hb.mono hB.size)
    dsimp only [ext, Option.getD] at hF
    repeat with_reducible first | refine wp_seq ?_ | refine nThen ?_
    refine' reg_all hF ?_ mixed (by kernel_rfl) ?_
    rotate_left
    · repeat (first | exact Line.nil | ((refine' Line.cons rfl (.run rfl rfl ?_) ?_); (any_goals (first | exact cMove rfl rfl | exact cNot rfl rfl | exact cCall1 rfl rfl hg)); rotate_left))
    intro a w2 hF hb hN
    have hBs := hB.size
    replace hB := hB.trans (hb.mono hB.size)
    dsimp only [ext, Option.getD] at hF
    repeat with_reducible refine nThen ?_
    refine cond_t hF rfl ?_
    repeat with_reducible refine wp_seq ?_
    refine' reg_all hF ?_ mixed (by kernel_rfl) ?_
    rotate_left
    · repeat (first | exact Line.nil | ((refine' Line.cons rfl (.run rfl rfl ?_) ?_); (any_goals exact cAssign rfl rfl); rotate_left))
    intro a w3 hF hb hN
    have hBs := hB.size
    replace hB := hB.trans (hb.mono hB.size)
    dsimp only [ext, Option.getD] at hF
    repeat with_reducible first | refine nThen ?_ | refine wp_ret ?_ | refine rThen ?_
    refine ret1 hF rfl rfl fun z hz => ?_
    have hz : z = .slice none 0 0 := hz
    subst hz
    exact ⟨_, rfl, (Seg.nil w3 3 1).sl, hB⟩
  have e : placesN seed n x = plc (placeS seed x) (n.toNat / 3) 3 := by unfold placesN; rw [hgn]; rfl
  rw [e, plc_len]
  have hgd := of_decide_eq_true hgn
  rw [hgn] at hg
  obtain ⟨N, rfl⟩ : ∃ N : Nat, n = (N : Int) := ⟨n.toNat, by omega⟩
  rw [Int.toNat_natCast]
  have hO := sumOf2_ty (e := 95) (τ := Ty.sl 5 9 ((80 :: leB seed 8).map bv)) (σ := Ty.sl 28 32 x.enc) (80 :: leB seed 8) x.l (by rw [show (80 :: leB seed 8).length = 9 by rw [List.length_cons, leB_len]]; exact reads_sl _ _ _) (by rw [x.len]; exact reads_sl _ _ _) (by
    intro y hy
    rcases List.mem_cons.1 hy with rfl | hy
    · decide
    · exact leB_lt seed 8 y hy) x.lt (by rw [x.len, List.length_cons, leB_len]; decide)
  have hY : shaL ((80 :: leB seed 8) ++ x.l) = (placeS seed x).l := rfl
  rw [hY] at hO
  generalize placeS seed x = Y at *
  clear hY e
  refine enter_ty 51 [Ty.ex (.int .u64 (seed : Int)), Ty.ex (.int .i64 (N : Int)), Ty.ex (.agg (u8s x.l))] Tryz.func45 rfl (by kernel_rfl) ⟨hv, hu, hq, trivial⟩ fun a hF => ?_
  have hB := Below.refl w.heap.size w
  repeat with_reducible refine wp_seq ?_
  refine' reg_all hF ?_ mixed (by kernel_rfl) ?_
  rotate_left
  · repeat (first | exact Line.nil | ((refine' Line.cons rfl (.run rfl rfl ?_) ?_); (any_goals (first | exact cAssign rfl rfl | exact cBoxSum rfl rfl)); rotate_left))
  intro a w1 hF hb hN
  have hBs := hB.size
  replace hB := hB.trans (hb.mono hB.size)
  dsimp only [ext, Option.getD] at hF
  repeat with_reducible first | refine wp_seq ?_ | refine nThen ?_
  refine' reg_all hF ?_ mixed (by kernel_rfl) ?_
  rotate_left
  · repeat (first | exact Line.nil | ((refine' Line.cons rfl (.run rfl rfl ?_) ?_); (any_goals (first | exact cMove rfl rfl | exact cNot rfl rfl | exact cCall1 rfl rfl hg)); rotate_left))
  intro a w2 hF hb hN
  have hBs := hB.size
  replace hB := hB.trans (hb.mono hB.size)
  dsimp only [ext, Option.getD] at hF
  repeat with_reducible refine nThen ?_
  refine cond_f hF rfl ?_
  repeat with_reducible first | refine wp_seq ?_ | refine nThen ?_ | refine wp_skip ?_
  refine' reg_all hF ?_ mixed (by kernel_rfl) ?_
  rotate_left
  · repeat (first | exact Line.nil | ((refine' Line.cons rfl (.run rfl rfl ?_) ?_); (any_goals (first | exact cAssign rfl rfl | exact cBuildB1 rfl rfl)); rotate_left))
  intro a w3 hF hb hN
  have hBs := hB.size
  replace hB := hB.trans (hb.mono hB.size)
  dsimp only [ext, Option.getD] at hF
  repeat with_reducible first | refine wp_seq ?_ | refine nThen ?_
  obtain ⟨u7, ⟨S7, hs7, hS7⟩, hF⟩ := hF.open (s := 7) rfl
  refine' reg_all hF ?_ mixed (by kernel_rfl) ?_
  rotate_left
  · repeat (first | exact Line.nil | ((refine' Line.cons rfl (.run rfl rfl ?_) ?_); (any_goals exact cMove rfl rfl); rotate_left))
  intro a w4 hF hb hN
  have hBs := hB.size
  replace hB := hB.trans (hb.mono hB.size)
  dsimp only [ext, Option.getD] at hF
  repeat with_reducible first | refine nThen ?_ | refine wp_block ?_
  refine loop_ty (fun m a wr => ∃ (k : Nat) (u : Value) (S : List Nat), k + m = 8 ∧ Fr 51 [(0, Ty.ex (.int .u64 ((seed / 256 ^ k : Nat) : Int))), (1, Ty.ex (.int .i64 (N : Int))), (5, Ty.at_ 28 x.enc), (7, Ty.ex u), (16, Ty.ex (.int .i64 (k : Int)))] a wr ∧ Below w.heap.size w wr ∧ Seg wr 5 1 u (1 + k) ((80 :: leB seed k).map bv) S ∧ ∀ y ∈ S, w.heap.size ≤ y) 8 ?_ ?_
  · exact ⟨0, u7, S7, by omega, by rw [Nat.pow_zero, Nat.div_one]; exact hF.keep [0, 1, 5, 7, 16], hB, hs7.below hb, fun y hy => by have := hS7 y hy; omega⟩
  clear hF hB
  rintro m a wr ⟨k, u, S, hk, hF, hB, hseg, hS⟩
  repeat with_reducible refine wp_seq ?_
  refine' reg_all hF ?_ mixed (by kernel_rfl) ?_
  rotate_left
  · repeat (first | exact Line.nil | ((refine' Line.cons rfl (.run rfl rfl ?_) ?_); (any_goals exact cLss rfl rfl rfl); rotate_left))
  intro a w5 hF hb hN
  have hBs := hB.size
  replace hB := hB.trans (hb.mono hB.size)
  dsimp only [ext, Option.getD] at hF
  repeat with_reducible first | refine wp_seq ?_ | refine nThen ?_
  replace hseg := hseg.below hb
  refine cond_ty hF rfl (fun hlt => ?_) (fun hge => ?_)
  · have hlt : k < 8 := by have := of_decide_eq_true hlt; omega
    have hnx : (80 :: leB seed k).map bv ++ [bv (seed / 256 ^ k % 256)] = (80 :: leB seed (k + 1)).map bv := by rw [leB]; simp
    have hdv : seed / 256 ^ k / 256 = seed / 256 ^ (k + 1) := by rw [Nat.div_div_eq_div_mul, Nat.pow_succ]
    have hZl : seed / 256 ^ k < 18446744073709551616 := Nat.lt_of_le_of_lt (Nat.div_le_self _ _) hsd
    generalize seed / 256 ^ k = Z at *
    generalize hZ2 : seed / 256 ^ (k + 1) = Z2 at *
    repeat with_reducible first | refine wp_seq ?_ | refine nThen ?_ | refine wp_skip ?_ | refine wp_block ?_
    refine' region_ty 4 mixed (by kernel_rfl) hF ?_ ?_
    rotate_left
    · simp only [List.take_succ_cons, List.take_zero]
      repeat (first | exact Line.nil | ((refine' Line.cons rfl (.run rfl rfl ?_) ?_); (any_goals (first | exact cMove rfl rfl | exact cConvR (r := ((Z % 256 : Nat) : Int)) rfl rfl Tryz.underlying31 Tryz.underlying5 (by simp [IntKind.wrap, IntKind.bits, IntKind.signed]) | exact cBuildV (vs := [bv (Z % 256)]) rfl (parts1v rfl rfl) Tryz.underlying95 infoU8 rfl (by simp [Value.cells, bv]) (by decide) (by simp [maxLen]))); rotate_left))
    intro a w6 hF hb hN
    have hBs := hB.size
    replace hB := hB.trans (hb.mono hB.size)
    simp only [List.take_succ_cons, List.take_zero, List.drop_succ_cons, List.drop_zero] at hF hN ⊢
    dsimp only [ext, Option.getD] at hF
    replace hseg := hseg.below hb
    refine tlAppend (Δ := [(0, Ty.ex (.int .u64 (Z : Int))), (1, Ty.ex (.int .i64 (N : Int))), (5, Ty.at_ 28 x.enc), (16, Ty.ex (.int .i64 (k : Int)))]) (n := 1 + k) (m := 1) (news := [bv (Z % 256)]) hF rfl rfl rfl rfl Tryz.underlying95 infoU8 rfl rfl hseg (.t rfl) sl_news rfl (by simp [bv, Value.oneCell']) (by simp [maxLen]; omega) (by omega) (hF.keep [0, 1, 5, 16]) rfl ?_
    intro a w7 u' S' hF hseg' hk7 hS'
    have hbS : ∀ y ∈ S', w.heap.size ≤ y := own_next hB hS hS'
    replace hB := below_own hB hk7 hS
    rw [hnx] at hseg'
    refine' tlOp hF rfl rfl rfl ?_ ?_
    rotate_left
    · exact cAssign rfl rfl
    intro a w8 hF hb
    have hBs := hB.size
    replace hB := hB.trans (hb.mono hB.size)
    try (refine wpList_nil ?_)
    repeat with_reducible refine nThen ?_
    replace hseg' := hseg'.below hb
    refine' reg_all hF ?_ mixed (by kernel_rfl) ?_
    rotate_left
    · repeat (first | exact Line.nil | ((refine' Line.cons rfl (.run rfl rfl ?_) ?_); (any_goals (first | exact cMove rfl rfl | exact cAssign rfl rfl | exact cShr (r := ((Z / 256 : Nat) : Int)) rfl rfl rfl n8 (shr8 Z))); rotate_left))
    intro a w9 hF hb hN
    have hBs := hB.size
    replace hB := hB.trans (hb.mono hB.size)
    dsimp only [ext, Option.getD] at hF
    repeat with_reducible first | refine nThen ?_ | refine nBlk ?_
    replace hseg' := hseg'.below hb
    refine' reg_all hF ?_ mixed (by kernel_rfl) ?_
    rotate_left
    · repeat (first | exact Line.nil | ((refine' Line.cons rfl (.run rfl rfl ?_) ?_); (any_goals (first | exact cMove rfl rfl | exact cAdd (r := ((k + 1 : Nat) : Int)) rfl rfl rfl (by omega))); rotate_left))
    intro a w10 hF hb hN
    have hBs := hB.size
    replace hB := hB.trans (hb.mono hB.size)
    dsimp only [ext, Option.getD] at hF
    repeat with_reducible refine nThen ?_
    refine ⟨m - 1, by omega, k + 1, u', S', by omega, ?_, hB, hseg'.below hb, hbS⟩
    rw [hZ2, ← hdv]
    exact hF.keep [0, 1, 5, 7, 16]
  have hge : ¬ k < 8 := by have := of_decide_eq_false hge; omega
  obtain rfl : k = 8 := by omega
  have hu5 : (Ty.sl 5 9 ((80 :: leB seed 8).map bv)).p w5 u := hseg.sl
  have hw5 : w.heap.size ≤ w5.heap.size := hB.size
  repeat with_reducible first | refine wp_seq ?_ | refine nThen ?_ | refine wp_exit ?_ | refine xThen ?_ | refine xHere ?_
  refine' region_ty 5 mixed (by kernel_rfl) hF ?_ ?_
  rotate_left
  · simp only [List.take_succ_cons, List.take_zero]
    repeat (first
        | exact Line.nil
        | (refine' Line.cons rfl (.new rfl rfl (run_alloc_i infoS) rfl) ?_; rotate_left)
        | ((refine' Line.cons rfl (.run rfl rfl ?_) ?_)
           any_goals (first | exact cMove rfl rfl | exact cSliceArr rfl (.t rfl) Tryz.underlying28 sizeU (by simp [maxLen]) | exact cBuildT (τs := [Ty.sl 5 9 ((80 :: leB seed 8).map bv), Ty.sl 28 32 x.enc]) rfl (partsT2 rfl (.l rfl hu5) (.t rfl) (Ty.sl_isSl _ _ _) (Ty.sl_isSl _ _ _)) Tryz.underlying123 infoB rfl | exact cCall1 rfl rfl hO)
           rotate_left))
  intro a w6 hF hb hN
  have hBs := hB.size
  replace hB := hB.trans (hb.mono hB.size)
  simp only [List.take_succ_cons, List.take_zero, List.drop_succ_cons, List.drop_zero] at hF hN ⊢
  dsimp only [ext, Option.getD] at hF
  obtain ⟨z, ⟨gx, rfl, hgx, hbx⟩, hF⟩ := hF.open (s := 8) rfl
  have hgx : w5.heap.size ≤ gx := hgx
  refine tlStoreV (Δ := [(1, Ty.ex (.int .i64 (N : Int))), (8, Ty.ex (.pointer (some ⟨gx, 0, none⟩)))]) hF rfl rfl rfl rfl (hF.getEx (s := 29) rfl) hbx (by show (u8s _).size = (u8s _).size; rw [u8s_size, u8s_size, Sm.len]; rfl) (by show _ = some (u8s _).size; rw [u8s_size, Sm.len]; exact sizeS) (u8s_one _) (hF.keep [1, 8]) rfl ?_
  intro w7 hF hbx hkx
  refine wpList_nil ?_
  replace hB := below_own hB hkx (by intro y hy; simp only [List.mem_singleton] at hy; omega)
  have hax : (Ty.at_ 28 Y.enc).p w7 (.pointer (some ⟨gx, 0, none⟩)) := by
    have h := blk_at hbx
    rwa [show (Value.agg (u8s Y.l)).cells.toList = Y.enc from u8s_list _] at h
  replace hF := hF.as hF (s := 8) (σ := Ty.at_ 28 Y.enc) rfl (fun v hv => by have hv : v = .pointer (some ⟨gx, 0, none⟩) := hv; subst hv; exact hax)
  obtain ⟨p, hp⟩ : ∃ p, p = N / 3 := ⟨_, rfl⟩
  have hp1 : 1 ≤ p := by omega
  have hp2 : p ≤ 400 := by omega
  rw [← hp]
  repeat with_reducible first | refine wp_seq ?_ | refine nThen ?_
  refine' reg_all hF ?_ mixed (by kernel_rfl) ?_
  rotate_left
  · repeat (first | exact Line.nil | ((refine' Line.cons rfl (.run rfl rfl ?_) ?_); (any_goals (first | exact cMove rfl rfl | exact cAssign rfl rfl | exact cQuoI (n := 3) (r := p) rfl rfl rfl (by decide) hp.symm (by omega))); rotate_left))
  intro a w8 hF hb hN
  have hBs := hB.size
  replace hB := hB.trans (hb.mono hB.size)
  dsimp only [ext, Option.getD] at hF
  repeat with_reducible first | refine wp_seq ?_ | refine nThen ?_
  refine' reg_all hF ?_ mixed (by kernel_rfl) ?_
  rotate_left
  · repeat (first | exact Line.nil | ((refine' Line.cons rfl (.run rfl rfl ?_) ?_); (any_goals exact cAssign rfl rfl); rotate_left))
  intro a w9 hF hb hN
  have hBs := hB.size
  replace hB := hB.trans (hb.mono hB.size)
  dsimp only [ext, Option.getD] at hF
  repeat with_reducible first | refine wp_seq ?_ | refine nThen ?_
  refine' reg_all hF ?_ mixed (by kernel_rfl) ?_
  rotate_left
  · repeat (first | exact Line.nil | ((refine' Line.cons rfl (.run rfl rfl ?_) ?_); (any_goals exact cMove rfl rfl); rotate_left))
  intro a w10 hF hb hN
  have hBs := hB.size
  replace hB := hB.trans (hb.mono hB.size)
  dsimp only [ext, Option.getD] at hF
  repeat with_reducible first | refine nThen ?_ | refine wp_block ?_
  refine loop_ty (fun m a wr => ∃ (k : Nat) (u : Value) (S : List Nat), k + m = 3 ∧ Fr 51 [(8, Ty.at_ 28 Y.enc), (9, Ty.ex (.int .i64 (p : Int))), (10, Ty.ex u), (32, Ty.ex (.int .i64 (k : Int)))] a wr ∧ Below w.heap.size w wr ∧ Seg wr 3 1 u k ((plc Y p k).map ivn) S ∧ ∀ y ∈ S, w.heap.size ≤ y) 3 ?_ ?_
  · exact ⟨0, _, [], by omega, hF.keep [8, 9, 10, 32], hB, Seg.nil _ _ _, by simp⟩
  clear hF hB
  rintro m a wr ⟨k, u, S, hk, hF, hB, hseg, hS⟩
  repeat with_reducible refine wp_seq ?_
  refine' reg_all hF ?_ mixed (by kernel_rfl) ?_
  rotate_left
  · repeat (first | exact Line.nil | ((refine' Line.cons rfl (.run rfl rfl ?_) ?_); (any_goals exact cLss rfl rfl rfl); rotate_left))
  intro a w11 hF hb hN
  have hBs := hB.size
  replace hB := hB.trans (hb.mono hB.size)
  dsimp only [ext, Option.getD] at hF
  repeat with_reducible first | refine wp_seq ?_ | refine nThen ?_
  replace hseg := hseg.below hb
  refine cond_ty hF rfl (fun hlt => ?_) (fun hge => ?_)
  · have hlt : k < 3 := by have := of_decide_eq_true hlt; omega
    have hW := sword_ty Y k (by omega)
    have hWl := word_lt Y k
    have hnx : (plc Y p k).map ivn ++ [ivn (k * p + wordF Y.l k 8 % p)] = (plc Y p (k + 1)).map ivn := by rw [plc]; simp
    have hm : wordF Y.l k 8 % p < p := Nat.mod_lt _ (by omega)
    have hkp : k * p ≤ 2 * p := Nat.mul_le_mul_right _ (by omega)
    generalize wordF Y.l k 8 = V at *
    generalize hM : V % p = M at *
    repeat with_reducible first | refine wp_seq ?_ | refine nThen ?_ | refine wp_skip ?_ | refine wp_block ?_
    refine' reg_all hF ?_ mixed (by kernel_rfl) ?_
    rotate_left
    · repeat (first | exact Line.nil | ((refine' Line.cons rfl (.run rfl rfl ?_) ?_); (any_goals (first | exact cMove rfl rfl | exact cAssign rfl rfl)); rotate_left))
    intro a w12 hF hb hN
    have hBs := hB.size
    replace hB := hB.trans (hb.mono hB.size)
    dsimp only [ext, Option.getD] at hF
    repeat with_reducible refine nThen ?_
    replace hseg := hseg.below hb
    refine' region_ty 13 mixed (by kernel_rfl) hF ?_ ?_
    rotate_left
    · simp only [List.take_succ_cons, List.take_zero]
      repeat (first | exact Line.nil | ((refine' Line.cons rfl (.run rfl rfl ?_) ?_); (any_goals (first | exact cMove rfl rfl | exact cMul (r := ((k * p : Nat) : Int)) rfl rfl rfl ⟨by rw [Int.natCast_mul], by omega, by omega⟩ | exact cLoadSum rfl (.t rfl) Tryz.underlying28 sizeS | exact cCall2 rfl rfl rfl hW | exact cConvR (r := (p : Int)) rfl rfl Tryz.underlying3 Tryz.underlying31 (by rw [IntKind.wrap_u64]; omega) | exact cRemU (n := p) (r := M) rfl rfl rfl (by omega) hM | exact cConvR (r := (M : Int)) rfl rfl Tryz.underlying31 Tryz.underlying3 (IntWalk.i64_in _ (by omega)) | exact cAdd (r := ((k * p + M : Nat) : Int)) rfl rfl rfl ⟨by rw [Int.natCast_add], by omega, by omega⟩ | exact cBuildV (vs := [ivn (k * p + M)]) rfl (parts1v rfl rfl) Tryz.underlying33 infoInt rfl (by simp [Value.cells, ivn]) (by decide) (by simp [maxLen]))); rotate_left))
    intro a w13 hF hb hN
    have hBs := hB.size
    replace hB := hB.trans (hb.mono hB.size)
    simp only [List.take_succ_cons, List.take_zero, List.drop_succ_cons, List.drop_zero] at hF hN ⊢
    dsimp only [ext, Option.getD] at hF
    replace hseg := hseg.below hb
    refine tlAppend (Δ := [(8, Ty.at_ 28 Y.enc), (9, Ty.ex (.int .i64 (p : Int))), (32, Ty.ex (.int .i64 (k : Int)))]) (n := k) (m := 1) (news := [ivn (k * p + M)]) hF rfl rfl rfl rfl Tryz.underlying33 infoInt rfl rfl hseg (.t rfl) sl_news rfl (by simp [ivn, Value.oneCell']) (by simp [maxLen]; omega) (by omega) (hF.keep [8, 9, 32]) rfl ?_
    intro a w14 u' S' hF hseg' hk14 hS'
    have hbS : ∀ y ∈ S', w.heap.size ≤ y := own_next hB hS hS'
    replace hB := below_own hB hk14 hS
    rw [hnx] at hseg'
    refine' tlOp hF rfl rfl rfl ?_ ?_
    rotate_left
    · exact cAssign rfl rfl
    intro a w15 hF hb
    have hBs := hB.size
    replace hB := hB.trans (hb.mono hB.size)
    try (refine wpList_nil ?_)
    repeat with_reducible first | refine nThen ?_ | refine nBlk ?_
    replace hseg' := hseg'.below hb
    refine' reg_all hF ?_ mixed (by kernel_rfl) ?_
    rotate_left
    · repeat (first | exact Line.nil | ((refine' Line.cons rfl (.run rfl rfl ?_) ?_); (any_goals (first | exact cMove rfl rfl | exact cAdd (r := ((k + 1 : Nat) : Int)) rfl rfl rfl (by omega))); rotate_left))
    intro a w16 hF hb hN
    have hBs := hB.size
    replace hB := hB.trans (hb.mono hB.size)
    dsimp only [ext, Option.getD] at hF
    repeat with_reducible refine nThen ?_
    exact ⟨m - 1, by omega, k + 1, u', S', by omega, hF.keep [8, 9, 10, 32], hB, hseg'.below hb, hbS⟩
  have hge : ¬ k < 3 := by have := of_decide_eq_false hge; omega
  obtain rfl : k = 3 := by omega
  repeat with_reducible first | refine wp_seq ?_ | refine nThen ?_ | refine wp_exit ?_ | refine xThen ?_ | refine xHere ?_
  refine' reg_all hF ?_ mixed (by kernel_rfl) ?_
  rotate_left
  · repeat (first | exact Line.nil | ((refine' Line.cons rfl (.run rfl rfl ?_) ?_); (any_goals (first | exact cMove rfl rfl | exact cAssign rfl rfl)); rotate_left))
  intro a w12 hF hb hN
  have hBs := hB.size
  replace hB := hB.trans (hb.mono hB.size)
  dsimp only [ext, Option.getD] at hF
  repeat with_reducible first | refine nThen ?_ | refine wp_ret ?_
  refine ret1 hF rfl rfl fun z hz => ?_
  have hz : z = u := hz
  subst hz
  exact ⟨z, rfl, (hseg.below hb).sl, hB⟩
end Go.Proofs.YtmefpnklgfhggaaGreatDoor

/- Cells and tables, plainly: sums put in and taken out in whatever order; one less another. -/
namespace Go.Proofs.YtmefpnklgfhggaaGreatDoor
open Go.RowKit

/-- A cell. -/
structure Cl where
  n : Int
  key : Sm
  check : Sm
  deriving DecidableEq
def Cl.enc (c : Cl) : List Value := .int .i64 c.n :: (c.key.enc ++ c.check.enc)
def Cl.a (c : Cl) : Array Value := c.enc.toArray
theorem Cl.enc_len (c : Cl) : c.enc.length = 65 := by simp [Cl.enc, Sm.enc, c.key.len, c.check.len]
theorem Cl.size (c : Cl) : c.a.size = 65 := by simp [Cl.a, c.enc_len]
theorem Cl.one (c : Cl) : c.a.all (·.oneCell') = true := by
  simp [Cl.a, Cl.enc, Sm.enc, Value.oneCell', bv]
def Cl.zero : Cl := ⟨0, Sm.zero, Sm.zero⟩
instance : Inhabited Cl := ⟨Cl.zero⟩
theorem Cl.ext {c d : Cl} (h1 : c.n = d.n) (h2 : c.key = d.key) (h3 : c.check = d.check) : c = d := by
  cases c; cases d; simp only at h1 h2 h3; subst h1 h2 h3; rfl
def chk (x : Sm) : Sm := shaS (67 :: x.l)
def Cl.put (c : Cl) (x : Sm) (n : Int) : Cl := ⟨wrap64 (c.n + n), c.key.xor x, c.check.xor (chk x)⟩
def Cl.minus (c d : Cl) : Cl := ⟨wrap64 (c.n - d.n), c.key.xor d.key, c.check.xor d.check⟩
def Cl.ok (c : Cl) : Bool := (decide (c.n = 1) || decide (c.n = -1)) && decide (c.check = chk c.key)
theorem wrap64_addr (a b : Int) : wrap64 (a + wrap64 b) = wrap64 (a + b) := by unfold wrap64; omega
theorem wrap64_addl (a b : Int) : wrap64 (wrap64 a + b) = wrap64 (a + b) := by unfold wrap64; omega
theorem wrap64_idem (a : Int) : wrap64 (wrap64 a) = wrap64 a := by unfold wrap64; omega
theorem wrap64_sub (a b : Int) : wrap64 (a - wrap64 b) = wrap64 (a - b) := by unfold wrap64; omega
theorem wrap64_subl (a b : Int) : wrap64 (wrap64 a - b) = wrap64 (a - b) := by unfold wrap64; omega
theorem w64_in {a : Int} (h : -9223372036854775808 ≤ a ∧ a ≤ 9223372036854775807) : wrap64 a = a := by unfold wrap64; omega
theorem Sm.xor_swap (a b c : Sm) : (a.xor b).xor c = (a.xor c).xor b := by rw [Sm.xor_assoc, Sm.xor_comm b c, ← Sm.xor_assoc]
def Norm (c : Cl) : Prop := wrap64 c.n = c.n
theorem put_norm (c : Cl) (x : Sm) (n : Int) : Norm (c.put x n) := wrap64_idem _
theorem minus_norm (c d : Cl) : Norm (c.minus d) := wrap64_idem _
theorem zero_norm : Norm Cl.zero := w64_in (by simp [Cl.zero])
theorem put_comm (c : Cl) (x y : Sm) (n m : Int) : (c.put x n).put y m = (c.put y m).put x n := by
  apply Cl.ext
  · show wrap64 (wrap64 (c.n + n) + m) = wrap64 (wrap64 (c.n + m) + n)
    rw [wrap64_addl, wrap64_addl]; congr 1; omega
  · exact Sm.xor_swap _ _ _
  · exact Sm.xor_swap _ _ _
theorem put_back (c : Cl) (x : Sm) {n m : Int} (hnm : n + m = 0) (h : Norm c) : (c.put x n).put x m = c := by
  apply Cl.ext
  · show wrap64 (wrap64 (c.n + n) + m) = c.n
    rw [wrap64_addl, show c.n + n + m = c.n by omega]; exact h
  · show (c.key.xor x).xor x = c.key
    rw [Sm.xor_assoc, Sm.xor_self, Sm.xor_zero]
  · show (c.check.xor (chk x)).xor (chk x) = c.check
    rw [Sm.xor_assoc, Sm.xor_self, Sm.xor_zero]
/-- All put in, n times each. -/
def putAll (n : Int) (c : Cl) (l : List Sm) : Cl := l.foldl (fun c x => c.put x n) c
theorem putAll_append (n : Int) (c : Cl) (l k : List Sm) : putAll n c (l ++ k) = putAll n (putAll n c l) k := by unfold putAll; rw [List.foldl_append]
theorem putAll_norm (n : Int) (l : List Sm) : ∀ c, Norm c → Norm (putAll n c l) := by
  induction l with
  | nil => intro c h; exact h
  | cons x l ih => intro c _; exact ih _ (put_norm _ _ _)
theorem putAll_put (n m : Int) (x : Sm) : ∀ (l : List Sm) (c : Cl), (putAll n c l).put x m = putAll n (c.put x m) l
  | [], _ => rfl
  | y :: l, c => by
    show (putAll n (c.put y n) l).put x m = putAll n ((c.put x m).put y n) l
    rw [putAll_put n m x l, put_comm]
theorem putAll_swap (n m : Int) : ∀ (k l : List Sm) (c : Cl), putAll m (putAll n c l) k = putAll n (putAll m c k) l
  | [], _, _ => rfl
  | x :: k, l, c => by
    show putAll m ((putAll n c l).put x m) k = putAll n (putAll m (c.put x m) k) l
    rw [putAll_put, putAll_swap n m k l]
theorem putAll_back {n m : Int} (hnm : n + m = 0) : ∀ (l : List Sm) (c : Cl), Norm c → putAll m (putAll n c l) l = c
  | [], _, _ => rfl
  | x :: l, c, h => by
    show putAll m ((putAll n (c.put x n) l).put x m) l = c
    rw [putAll_put, put_back c x hnm h]
    exact putAll_back hnm l c h
theorem putAll_perm {n : Int} {l k : List Sm} (h : l.Perm k) (c : Cl) : putAll n c l = putAll n c k := by
  unfold putAll
  exact h.foldl_eq' (fun x _ y _ z => put_comm z x y n n) c
theorem minus_self (c : Cl) : c.minus c = Cl.zero := by
  apply Cl.ext
  · show wrap64 (c.n - c.n) = 0
    rw [show c.n - c.n = 0 by omega]; exact w64_in (by omega)
  · exact Sm.xor_self _
  · exact Sm.xor_self _
theorem minus_zero (c : Cl) (h : Norm c) : c.minus Cl.zero = c := by
  apply Cl.ext
  · show wrap64 (c.n - 0) = c.n
    rw [show c.n - 0 = c.n by omega]; exact h
  · exact Sm.xor_zero _
  · exact Sm.xor_zero _
theorem minus_put (c d : Cl) (x : Sm) {n m : Int} (hnm : n + m = 0) : c.minus (d.put x n) = (c.minus d).put x m := by
  apply Cl.ext
  · show wrap64 (c.n - wrap64 (d.n + n)) = wrap64 (wrap64 (c.n - d.n) + m)
    rw [wrap64_sub, wrap64_addl]; congr 1; omega
  · exact (Sm.xor_assoc _ _ _).symm
  · exact (Sm.xor_assoc _ _ _).symm
theorem minus_putAll {n m : Int} (hnm : n + m = 0) (c : Cl) : ∀ (l : List Sm) (d : Cl), c.minus (putAll n d l) = putAll m (c.minus d) l
  | [], _ => rfl
  | x :: l, d => by
    show c.minus (putAll n (d.put x n) l) = putAll m ((c.minus d).put x m) l
    rw [minus_putAll hnm c l, minus_put c d x hnm]
theorem put_minus (c d : Cl) (x : Sm) (n : Int) : (c.put x n).minus d = (c.minus d).put x n := by
  apply Cl.ext
  · show wrap64 (wrap64 (c.n + n) - d.n) = wrap64 (wrap64 (c.n - d.n) + n)
    rw [wrap64_subl, wrap64_addl]; congr 1; omega
  · exact Sm.xor_swap _ _ _
  · exact Sm.xor_swap _ _ _
theorem putAll_minus (n : Int) (d : Cl) : ∀ (l : List Sm) (c : Cl), (putAll n c l).minus d = putAll n (c.minus d) l
  | [], _ => rfl
  | x :: l, c => by
    show (putAll n (c.put x n) l).minus d = putAll n ((c.minus d).put x n) l
    rw [putAll_minus n d l, put_minus]
/-- Rows of cells. -/
def flatC (L : List Cl) : List Value := L.flatMap Cl.enc
theorem flatC_len (L : List Cl) : (flatC L).length = L.length * 65 := by
  unfold flatC
  induction L with
  | nil => rfl
  | cons x L ih => rw [List.flatMap_cons, List.length_append, ih, Cl.enc_len, List.length_cons, Nat.add_mul]; omega
theorem flatC_drop (L : List Cl) (k : Nat) : (flatC L).drop (k * 65) = flatC (L.drop k) := by
  induction k generalizing L with
  | zero => simp
  | succ k ih =>
    cases L with
    | nil => simp [flatC]
    | cons x L =>
      rw [List.drop_succ_cons, ← ih]
      unfold flatC
      rw [List.flatMap_cons, show (k + 1) * 65 = x.enc.length + k * 65 by rw [Cl.enc_len]; omega, ← List.drop_drop, List.drop_left]
theorem flatC_take (L : List Cl) (k : Nat) : (flatC L).take (k * 65) = flatC (L.take k) := by
  induction k generalizing L with
  | zero => simp [flatC]
  | succ k ih =>
    cases L with
    | nil => simp [flatC]
    | cons x L =>
      rw [List.take_succ_cons]
      unfold flatC
      rw [List.flatMap_cons, List.flatMap_cons, show (k + 1) * 65 = x.enc.length + k * 65 by rw [Cl.enc_len]; omega, List.take_length_add_append]
      congr 1
      exact ih L
theorem dropC_get (L : List Cl) {k : Nat} (h : k < L.length) : L.drop k = L.getD k default :: L.drop (k + 1) := by
  rw [List.drop_eq_getElem_cons h]
  simp [List.getD, List.getElem?_eq_getElem h]
theorem flatC_at (L : List Cl) {k : Nat} (h : k < L.length) : (flatC L).drop (k * 65) = (L.getD k default).enc ++ flatC (L.drop (k + 1)) := by
  rw [flatC_drop, dropC_get L h]
  rfl
theorem flatC_one' {L : List Cl} : ∀ u ∈ flatC L, u.oneCell' = true := by
  intro u hu
  obtain ⟨x, _, h⟩ := List.mem_flatMap.1 hu
  have := x.one
  simp only [Cl.a, Array.all_eq_true_iff_forall_mem] at this
  exact this u (by simpa using h)
theorem over_flatC (D : List Cl) {k : Nat} (x : Cl) (hk : k < D.length) : over (flatC D) (k * 65) x.enc = flatC (D.set k x) := by
  unfold over
  rw [Cl.enc_len, show k * 65 + 65 = (k + 1) * 65 by omega, flatC_take, flatC_drop, List.set_eq_take_append_cons_drop, if_pos hk]
  simp [flatC]

/-! ### Tables -/
def tputAt (L : List Cl) (i : Nat) (x : Sm) (n : Int) : List Cl := L.set i ((L.getD i default).put x n)
/-- x, n times, in its places. -/
def tput (seed : Nat) (L : List Cl) (x : Sm) (n : Int) : List Cl := (placesN seed (L.length : Int) x).foldl (fun L i => tputAt L i x n) L
def tall (seed : Nat) (L : List Cl) (xs : List Sm) (n : Int) : List Cl := xs.foldl (fun L x => tput seed L x n) L
def tminus (L M : List Cl) : List Cl := List.zipWith Cl.minus L M
def tzero (n : Nat) : List Cl := List.replicate n Cl.zero
def tcount (L : List Cl) : Int := (L.take (L.length / 3)).foldl (fun n c => wrap64 (n + c.n)) 0
theorem tputAt_len (L : List Cl) (i : Nat) (x : Sm) (n : Int) : (tputAt L i x n).length = L.length := by simp [tputAt]
theorem foldAt_len (x : Sm) (n : Int) : ∀ (p : List Nat) (L : List Cl), (p.foldl (fun L i => tputAt L i x n) L).length = L.length
  | [], _ => rfl
  | i :: p, L => by rw [List.foldl_cons, foldAt_len x n p, tputAt_len]
theorem tput_len (seed : Nat) (L : List Cl) (x : Sm) (n : Int) : (tput seed L x n).length = L.length := foldAt_len x n _ L
theorem tall_len (seed : Nat) (n : Int) : ∀ (xs : List Sm) (L : List Cl), (tall seed L xs n).length = L.length
  | [], _ => rfl
  | x :: xs, L => by show (tall seed (tput seed L x n) xs n).length = _; rw [tall_len seed n xs, tput_len]
theorem tminus_len {L M : List Cl} (h : L.length = M.length) : (tminus L M).length = L.length := by simp [tminus, h]
theorem getD_set_eq (L : List Cl) {i j : Nat} (v : Cl) (hj : j < L.length) : (L.set i v).getD j default = if i = j then v else L.getD j default := by
  simp only [List.getD, List.getElem?_set]
  by_cases h : i = j
  · subst h; simp [hj]
  · simp [h]
theorem foldAt_get (x : Sm) (n : Int) : ∀ (p : List Nat) (L : List Cl) (j : Nat), p.Nodup → (∀ i ∈ p, i < L.length) → j < L.length →
    (p.foldl (fun L i => tputAt L i x n) L).getD j default = if j ∈ p then (L.getD j default).put x n else L.getD j default
  | [], _, _, _, _, _ => by simp
  | i :: p, L, j, hd, hp, hj => by
    rw [List.nodup_cons] at hd
    rw [List.foldl_cons, foldAt_get x n p _ j hd.2 (fun k hk => by rw [tputAt_len]; exact hp k (by simp [hk])) (by rw [tputAt_len]; exact hj)]
    unfold tputAt
    rw [getD_set_eq L _ hj]
    by_cases hij : i = j
    · subst hij
      simp [hd.1]
    · have hji : ¬ j = i := fun h => hij h.symm
      simp [hij, hji]
theorem list_extD {L M : List Cl} (hl : L.length = M.length) (h : ∀ j, j < L.length → L.getD j default = M.getD j default) : L = M := by
  apply List.ext_getElem hl
  intro i h1 h2
  have := h i h1
  simpa [List.getD, List.getElem?_eq_getElem h1, List.getElem?_eq_getElem h2] using this
theorem plc_lt (s : Sm) {p : Nat} (hp : 0 < p) : ∀ k, ∀ i ∈ plc s p k, i < k * p
  | 0, i, h => by simp [plc] at h
  | k + 1, i, h => by
    rw [plc, List.mem_append] at h
    rw [Nat.succ_mul]
    rcases h with h | h
    · have := plc_lt s hp k i h; omega
    · simp only [List.mem_singleton] at h
      subst h
      have := Nat.mod_lt (wordF s.l k 8) hp
      omega
theorem plc_nodup (s : Sm) {p : Nat} (hp : 0 < p) : ∀ k, (plc s p k).Nodup
  | 0 => by simp [plc]
  | k + 1 => by
    rw [plc, List.nodup_append]
    refine ⟨plc_nodup s hp k, by simp, fun a ha b hb h => ?_⟩
    simp only [List.mem_singleton] at hb
    have := plc_lt s hp k a ha
    omega
theorem places_nodup (seed : Nat) (n : Int) (x : Sm) : (placesN seed n x).Nodup := by
  unfold placesN
  split
  · rename_i h
    have := of_decide_eq_true h
    exact plc_nodup _ (by omega) 3
  · simp
theorem places_lt (seed n : Nat) (x : Sm) : ∀ i ∈ placesN seed (n : Int) x, i < n := by
  intro i hi
  unfold placesN at hi
  split at hi
  · rename_i h
    have := of_decide_eq_true h
    have h1 := plc_lt _ (p := (n : Int).toNat / 3) (by omega) 3 i hi
    simp only [Int.toNat_natCast] at h1
    omega
  · simp at hi
/-- x belongs in cell j. -/
def isAt (seed n : Nat) (j : Nat) (x : Sm) : Bool := decide (j ∈ placesN seed (n : Int) x)
theorem tput_get (seed : Nat) (L : List Cl) (x : Sm) (n : Int) {j : Nat} (hj : j < L.length) : (tput seed L x n).getD j default = if isAt seed L.length j x then (L.getD j default).put x n else L.getD j default := by
  unfold tput
  rw [foldAt_get x n _ L j (places_nodup seed _ x) (fun i hi => places_lt seed _ x i hi) hj]
  unfold isAt
  by_cases h : j ∈ placesN seed (L.length : Int) x <;> simp [h]
theorem tall_get (seed : Nat) (n : Int) {j : Nat} : ∀ (xs : List Sm) (L : List Cl), j < L.length → (tall seed L xs n).getD j default = putAll n (L.getD j default) (xs.filter (isAt seed L.length j))
  | [], L, _ => rfl
  | x :: xs, L, hj => by
    show (tall seed (tput seed L x n) xs n).getD j default = _
    rw [tall_get seed n xs _ (by rw [tput_len]; exact hj), tput_len, tput_get seed L x n hj, List.filter_cons]
    by_cases h : isAt seed L.length j x = true
    · rw [if_pos h, if_pos h]; rfl
    · rw [if_neg h, if_neg h]
theorem tminus_get {L M : List Cl} (h : L.length = M.length) {j : Nat} (hj : j < L.length) : (tminus L M).getD j default = (L.getD j default).minus (M.getD j default) := by
  have hm : j < M.length := by omega
  simp [tminus, List.getD, List.getElem?_zipWith, List.getElem?_eq_getElem hj, List.getElem?_eq_getElem hm]
theorem tzero_get {n j : Nat} (hj : j < n) : (tzero n).getD j default = Cl.zero := by
  simp [tzero, List.getD, hj]
theorem tzero_len (n : Nat) : (tzero n).length = n := by simp [tzero]
def NormT (L : List Cl) : Prop := ∀ j, j < L.length → Norm (L.getD j default)
theorem tzero_norm (n : Nat) : NormT (tzero n) := fun j hj => by
  rw [tzero_len] at hj
  rw [tzero_get hj]; exact zero_norm
theorem tall_norm {seed : Nat} {n : Int} {L : List Cl} (xs : List Sm) (h : NormT L) : NormT (tall seed L xs n) := fun j hj => by
  rw [tall_len] at hj
  rw [tall_get seed n xs L hj]
  exact putAll_norm n _ _ (h j hj)
theorem tput_norm {seed : Nat} {n : Int} {L : List Cl} (x : Sm) (h : NormT L) : NormT (tput seed L x n) := tall_norm (seed := seed) (n := n) [x] h
theorem tminus_norm {L M : List Cl} (h : L.length = M.length) : NormT (tminus L M) := fun j hj => by
  rw [tminus_len h] at hj
  rw [tminus_get h hj]; exact minus_norm _ _
end Go.Proofs.YtmefpnklgfhggaaGreatDoor

/- The walks of Sum.Xor and Sum.Zero. -/
namespace Go.Proofs.YtmefpnklgfhggaaGreatDoor
open Go.RowKit

theorem info32 : (Tryz.prog.info? 28).map (·.size) = some 32 := by kernel_rfl

set_option maxRecDepth 100000 in
set_option maxHeartbeats 1000000 in
theorem Xor_l (x y : List Nat) (hx : x.length = 32) (hy : y.length = 32) (w : World) :
    Calls Tryz.prog 111 #[.agg (u8s x), .agg (u8s y)] w fun e w' => e = .returned (.agg (u8s (xorL x y))) ∧ Below w.heap.size w w' := by
  have X := x8_eq
  have HX := Lib.hid hx
  have HY := Lib.hid hy
  have hR : (u8s (xorL x y)).size = 32 := by rw [u8s_size, xorL_len (by omega), hx]
  have HR := Lib.hid hR
  have HI := Lib.hid (info32.trans (congrArg some hR.symm))
  have H1 := Lib.hid (u8s_one (xorL x y))
  have HM := Lib.hid (mix8_all hx hy)
  clear hx hy hR
  generalize xorL x y = r at *
  go_enter Tryz.func111, Tryz.ntmps111
  go_wp2_with fail
  have h0 : Blk (((w.alloc (.cells (u8s x) 28)).alloc (.cells (u8s y) 28)).alloc (.cells (u8s (List.replicate 32 0)) 28)) w.heap.size 28 (u8s (mix8 x y 0)) := ((Blk.new w _ _).alloc _).alloc _
  have h1 : Blk (((w.alloc (.cells (u8s x) 28)).alloc (.cells (u8s y) 28)).alloc (.cells (u8s (List.replicate 32 0)) 28)) (w.heap.size + 1) 28 (u8s y) := (Blk.newAt (w.alloc _) _ _ _ (by simp)).alloc _
  have h2 : Blk (((w.alloc (.cells (u8s x) 28)).alloc (.cells (u8s y) 28)).alloc (.cells (u8s (List.replicate 32 0)) 28)) (w.heap.size + 1 + 1) 28 (u8s (List.replicate 32 0)) := Blk.newAt ((w.alloc _).alloc _) _ _ _ (by simp)
  have hb : Below w.heap.size w (((w.alloc (.cells (u8s x) 28)).alloc (.cells (u8s y) 28)).alloc (.cells (u8s (List.replicate 32 0)) 28)) := ((((Keeps.refl [] w).alloc _).alloc _).alloc _).below
  go_loopw [6] (fun i wr => ∃ k : Nat, k ≤ 32 ∧ i = .int .i64 k ∧ Blk wr w.heap.size 28 (u8s (mix8 x y k)) ∧ Blk wr (w.heap.size + 1) 28 (u8s y) ∧ Blk wr (w.heap.size + 1 + 1) 28 (u8s (List.replicate 32 0)) ∧ Below w.heap.size w wr) (fun i _ => 32 - (intOf i).toNat)
  case atStart => exact ⟨0, by omega, rfl, h0, h1, h2, hb⟩
  case round =>
    clear h0 h1 h2 hb
    obtain ⟨k, hk, rfl, h0, h1, h2, hb⟩ := hrel
    by_cases hk32 : k < 32
    · have c0 : wr.cell? ⟨w.heap.size, k, none⟩ = some (.int .u8 ((x.getD k 0 : Nat) : Int)) := by rw [h0.cell, u8s_get (by rw [mix8_len HX.out HY.out (by omega)]; exact hk32), mix8_get HX.out HY.out hk32]
      have c1 : wr.cell? ⟨w.heap.size + 1, k, none⟩ = some (.int .u8 ((y.getD k 0 : Nat) : Int)) := by rw [h1.cell, u8s_get (by rw [HY.out]; exact hk32)]
      have f0 := h0.frozen k
      have hS := h0.set k (.int .u8 ((x8 (x.getD k 0) (y.getD k 0) : Nat) : Int))
      rw [mix8_set HX.out HY.out hk32] at hS
      generalize x.getD k 0 = a at *
      generalize y.getD k 0 = b at *
      have r0 : (k : Int) < 32 := by omega
      have r1 : (0 : Int) ≤ (k : Int) := by omega
      go_wp2_with fail
      go_still_tail 8, (by kernel_rfl)
      go_wp2_with fail
      go_roundw
      case rel => exact ⟨k + 1, by omega, by go_num, hS.drew, (h1.far (p := ⟨w.heap.size, k, none⟩) (by simp) _).drew, (h2.far (p := ⟨w.heap.size, k, none⟩) (by simp; omega) _).drew, (hb.setCell (p := ⟨w.heap.size, k, none⟩) (by simp) _).drew⟩
      case measure => simp [intOf]; omega
    · obtain rfl : k = 32 := by omega
      rw [HM.out] at h0
      have HZ : Hid ((u8s r).size = (u8s (List.replicate 32 0)).size) := by unfold Hid; rw [HR.out, u8s_size]; rfl
      go_wp2_with (first
        | (refine wpList_load_blk rfl 28 (.tmp 2) rfl w.heap.size rfl 28 (u8s r) _ h0 Tryz.underlying28 rfl HI.out ?_)
        | (refine wpList_store_blk rfl 28 (.tmp 4) (.tmp 18) rfl (w.heap.size + 1 + 1) 28 _ (u8s r) rfl rfl h2 HZ.out HI.out H1.out ?_; intro w' hB' hk'))
      refine post_blk rfl rfl (w.heap.size + 1 + 1) 28 (u8s r) _ rfl hB' Tryz.underlying28 rfl HI.out ⟨rfl, ?_⟩
      exact ((Keeps.of_below (S := []) hb).trans' hk' (by simp; omega)).below
theorem Xor_any (x y : Sm) (w : World) :
    Calls Tryz.prog 111 #[.agg (u8s x.l), .agg (u8s y.l)] w fun e w' => e = .returned (.agg (u8s (x.xor y).l)) ∧ Below w.heap.size w w' := Xor_l x.l y.l x.len y.len w
end Go.Proofs.YtmefpnklgfhggaaGreatDoor

/- Cells by types: build, fields, ==; the functions of layer 13, the program's and the document's. -/
namespace Go.Proofs.YtmefpnklgfhggaaGreatDoor
open Go.RowKit

/-- A cell's 65 places. -/
def cellA (n : Int) (K C : Array Value) : Array Value := #[.int .i64 n] ++ K ++ C
theorem fold_splice (off : Nat) : ∀ (l : List Value) (j : Nat) (cells : Array Value), (l.zipIdx j).foldl (fun cs (p : Value × Nat) => cs.setIfInBounds (off + p.2) p.1) cells = splice cells (off + j) l
  | [], _, _ => rfl
  | v :: l, j, cells => by
    rw [List.zipIdx_cons, List.foldl_cons, fold_splice off l (j + 1)]
    rfl
theorem fold_arr (off : Nat) (V cells : Array Value) : V.zipIdx.foldl (fun cs (p : Value × Nat) => cs.setIfInBounds (off + p.2) p.1) cells = splice cells off V.toList := by
  rw [← Array.foldl_toList, Array.toList_zipIdx]
  exact fold_splice off V.toList 0 cells
theorem cell_splice {n : Int} {K C Z : Array Value} (hZ : Z.size = 65) (hK : K.size = 32) (hC : C.size = 32) : splice (splice (splice Z 0 [.int .i64 n]) 1 K.toList) 33 C.toList = cellA n K C := by
  apply Array.ext_getElem?
  intro j
  rw [splice_get _ _ _ _ (by rw [splice_size, splice_size]; simp [hZ, hC]), splice_get _ _ _ _ (by rw [splice_size]; simp [hZ, hK]), splice_get _ _ _ _ (by simp [hZ])]
  simp only [Array.length_toList, hK, hC, List.length_singleton]
  unfold cellA
  by_cases h3 : 33 ≤ j
  · rw [Array.getElem?_append_right (by simp [hK]; omega)]
    have e : j - (#[Value.int .i64 n] ++ K).size = j - 33 := by simp [hK]
    rw [e]
    by_cases h4 : j < 65
    · rw [if_pos (by omega)]; simp
    · rw [if_neg (by omega), if_neg (by omega), if_neg (by omega), Array.getElem?_eq_none (by omega), Array.getElem?_eq_none (by omega)]
  · rw [if_neg (by omega), Array.getElem?_append_left (by simp [hK]; omega)]
    by_cases h2 : 1 ≤ j
    · rw [if_pos (by omega), Array.getElem?_append_right (by simp; omega)]; simp
    · obtain rfl : j = 0 := by omega
      rw [if_neg (by omega), if_pos (by omega)]
      rw [Array.getElem?_append_left (by simp)]
      simp
theorem fill_step {place : Nat → Option (Nat × Nat)} {cells : Array Value} {i off size : Nat} {v : Value} {rest : List (Nat × Value)} (hp : place i = some (off, size)) (hs : v.cells.size = size) (hb : off + size ≤ cells.size) :
    Instr.fill place cells ((i, v) :: rest) = Instr.fill place (splice cells off v.cells.toList) rest := by
  rw [Instr.fill]
  simp only [hp]
  rw [if_neg (by rw [hs]; simp; omega), fold_arr]
theorem fill_cell {Z K C : Array Value} {n : Int} (hZ : Z.size = 65) (hK : K.size = 32) (hC : C.size = 32) :
    Instr.fill (fun x => ([(0, 1), (1, 32), (33, 32)] : List (Nat × Nat))[x]?) Z [(0, .int .i64 n), (1, .agg K), (2, .agg C)] = some (cellA n K C) := by
  rw [fill_step (v := .int .i64 n) (off := 0) (size := 1) rfl rfl (by rw [hZ]; omega), fill_step (v := .agg K) (off := 1) (size := 32) rfl hK (by rw [splice_size, hZ]; omega), fill_step (v := .agg C) (off := 33) (size := 32) rfl hC (by rw [splice_size, splice_size, hZ]; omega)]
  rw [show (Value.int .i64 n).cells.toList = [.int .i64 n] from rfl, show (Value.agg K).cells = K from rfl, show (Value.agg C).cells = C from rfl, cell_splice hZ hK hC]
  rfl
def zero65 : Array Value := cellA 0 (u8s (List.replicate 32 0)) (u8s (List.replicate 32 0))
theorem zero65_size : zero65.size = 65 := rfl
theorem extract_key {n : Int} {K C : Array Value} (hK : K.size = 32) (hC : C.size = 32) : (cellA n K C).extract 1 (1 + 32) = K := by
  apply Array.ext_getElem?
  intro j
  unfold cellA
  by_cases h : j < 32
  · rw [Array.getElem?_extract, if_pos (by simp [hK, hC]; omega), Array.getElem?_append_left (by simp [hK]; omega), Array.getElem?_append_right (by simp)]
    simp
  · rw [Array.getElem?_eq_none (by simp [hK]; omega), Array.getElem?_eq_none (by omega)]
theorem extract_check {n : Int} {K C : Array Value} (hK : K.size = 32) (hC : C.size = 32) : (cellA n K C).extract 33 (33 + 32) = C := by
  apply Array.ext_getElem?
  intro j
  unfold cellA
  by_cases h : j < 32
  · rw [Array.getElem?_extract, if_pos (by simp [hK, hC]; try omega), Array.getElem?_append_right (by simp [hK]; try omega)]
    congr 1
    simp [hK]
    try omega
  · rw [Array.getElem?_eq_none (by simp [hK, hC]; try omega), Array.getElem?_eq_none (by omega)]
theorem cellA_get0 {n : Int} {K C : Array Value} : (cellA n K C)[0]? = some (.int .i64 n) := by
  unfold cellA; rw [Array.getElem?_append_left (by simp; omega), Array.getElem?_append_left (by simp)]; rfl
theorem cl_cellA (c : Cl) : c.a = cellA c.n (u8s c.key.l) (u8s c.check.l) := by simp [Cl.a, Cl.enc, cellA, u8s, Sm.enc]
theorem Sm.size (s : Sm) : (u8s s.l).size = 32 := by rw [u8s_size, s.len]
theorem Cl.eq_iff (c d : Cl) : (c.n = d.n ∧ c.key = d.key ∧ c.check = d.check) ↔ c = d := ⟨fun h => Cl.ext h.1 h.2.1 h.2.2, fun h => by subst h; exact ⟨rfl, rfl, rfl⟩⟩
theorem zero65_is : zero65 = Cl.zero.a := by rw [cl_cellA]; rfl
theorem info34 : (Tryz.prog.info? 69).map (·.size) = some 65 := by kernel_rfl
theorem zero34 (w : World) : (zeroValue 69).run Tryz.prog w = .ok (.agg zero65) w := by kernel_rfl
theorem build_cell34 (n : Int) (K C : Array Value) (hK : K.size = 32) (hC : C.size = 32) (w : World) : (Instr.build 69 #[(0, .int .i64 n), (1, .agg K), (2, .agg C)]).run Tryz.prog w = .ok (.agg (cellA n K C)) w := by
  have hu := run_underlying Tryz.underlying69 w
  have h1 := Tryz.sizeOf2 w
  have hf : Instr.fill (fun x => ([(0, 1), (1, 32), (33, 32)] : List (Nat × Nat))[x]?) (Value.agg zero65).cells [(0, .int .i64 n), (1, .agg K), (2, .agg C)] = some (cellA n K C) := fill_cell zero65_size hK hC
  simp only [Instr.build, Sem.run_bind, zero34 w, Result.andThen_ok, hu]
  simp [h1, hf]
theorem build_zero34 (w : World) : (Instr.build 69 #[]).run Tryz.prog w = .ok (.agg zero65) w := by
  have hu := run_underlying Tryz.underlying69 w
  have h1 := Tryz.sizeOf2 w
  simp only [Instr.build, Sem.run_bind, zero34 w, Result.andThen_ok, hu]
  simp [h1, Instr.fill]
  rfl
theorem fields34 : ∃ f0 f1 f2 : Field, (Tryz.prog.fieldsOf 69).toList = [f0, f1, f2] ∧ f0.name ≠ "_" ∧ f1.name ≠ "_" ∧ f2.name ≠ "_" ∧ f0.type = 2 ∧ f0.offset = 0 ∧ f1.type = 28 ∧ f1.offset = 1 ∧ f2.type = 28 ∧ f2.offset = 33 := by
  have hu := Tryz.underlying69
  have h : ∀ fs, Tryz.prog.underlying 69 = some (.struct fs) → Tryz.prog.fieldsOf 69 = fs := fun fs h => by unfold Program.fieldsOf; rw [h]
  have h2 := h _ hu
  rw [h2]
  exact ⟨_, _, _, rfl, by decide, by decide, by decide, rfl, rfl, rfl, rfl, rfl, rfl⟩
theorem holds34 : Tryz.prog.underlying 69 = some (.struct (Tryz.prog.fieldsOf 69)) ∧ Tryz.prog.stoodInHeld 69 = false := ⟨by kernel_rfl, by kernel_rfl⟩
theorem part_key34 (c : Cl) (w : World) : (part 28 c.a 1).run Tryz.prog w = .ok (.agg (u8s c.key.l)) w := by
  have a1 : (isAgg 28).run Tryz.prog w = .ok true w := by kernel_rfl
  unfold part
  rw [Sem.run_bind, a1]
  simp only [Result.andThen_ok, if_true, Sem.run_bind, Tryz.sizeOf28 w, Sem.run_pure]
  rw [show c.a.extract 1 (1 + 32) = u8s c.key.l by rw [cl_cellA]; exact extract_key c.key.size c.check.size]
theorem part_check34 (c : Cl) (w : World) : (part 28 c.a 33).run Tryz.prog w = .ok (.agg (u8s c.check.l)) w := by
  have a1 : (isAgg 28).run Tryz.prog w = .ok true w := by kernel_rfl
  unfold part
  rw [Sem.run_bind, a1]
  simp only [Result.andThen_ok, if_true, Sem.run_bind, Tryz.sizeOf28 w, Sem.run_pure]
  rw [show c.a.extract 33 (33 + 32) = u8s c.check.l by rw [cl_cellA]; exact extract_check c.key.size c.check.size]
theorem part_n34 (c : Cl) (w : World) : (part 2 c.a 0).run Tryz.prog w = .ok (.int .i64 c.n) w := by
  unfold part
  rw [Sem.run_bind, Tryz.isAgg2 w]
  simp only [Result.andThen_ok]
  rw [show c.a[0]? = some (.int .i64 c.n) by rw [cl_cellA]; exact cellA_get0]
  rfl
theorem sums34 (d : Nat) (x y : Sm) (w : World) : (Op.equalIn (d + 2) 28 (.agg (u8s x.l)) (.agg (u8s y.l))).run Tryz.prog w = .ok (decide (x.l = y.l)) w := by
  obtain ⟨i, hi⟩ := info_u8
  exact run_equalIn_bytes (P := Tryz.prog) d 28 _ 32 i Tryz.underlying28 hi (by kernel_rfl) Tryz.underlying5 Tryz.isAgg5 x.l y.l x.len y.len w
theorem eql_cell34 (d : Nat) (b c : Cl) (w : World) : (Op.equalIn (d + 3) 69 (.agg b.a) (.agg c.a)).run Tryz.prog w = .ok (decide (b = c)) w := by
  obtain ⟨f0, f1, f2, hf, n0, n1, n2, t0, o0, t1, o1, t2, o2⟩ := fields34
  have pk := part_key34
  have pc := part_check34
  have pn := part_n34
  have hq := fun x y => sums34 d x y w
  have hi := run_equalIn_int w (d + 1) 2 .i64 .i64 b.n c.n Tryz.underlying2
  rw [run_equalIn_struct w (d + 2) _ _ _ holds34.1 holds34.2, hf]
  simp only [Op.eqFields, n0, n1, n2, ne_eq, not_false_eq_true, if_true, Sem.run_bind, t0, o0, t1, o1, t2, o2, pn, Result.andThen_ok, hi]
  by_cases e0 : b.n = c.n
  · by_cases e1 : b.key = c.key
    · by_cases e2 : b.check = c.check
      · have h := (Cl.eq_iff b c).1 ⟨e0, e1, e2⟩
        subst h
        simp [pk, pc, hq]
      · have hne : ¬ b = c := fun h => e2 (by rw [h])
        have e3 : ¬ b.check.l = c.check.l := fun h => e2 (Sm.ext_l h)
        simp [e0, e1, e3, hne, pk, pc, hq]
    · have hne : ¬ b = c := fun h => e1 (by rw [h])
      have e3 : ¬ b.key.l = c.key.l := fun h => e1 (Sm.ext_l h)
      simp [e0, e3, hne, pk, hq]
  · have hne : ¬ b = c := fun h => e0 (by rw [h])
    simp [e0, hne]
theorem eql_cl34 (c d : Cl) (w : World) : (binOp .eql 69 (.agg c.a) (.agg d.a)).run Tryz.prog w = .ok (.bool (decide (c = d))) w := by rw [run_eql_struct, eql_cell34 9997]; rfl
theorem infoC34 : (Tryz.prog.info? 69).map (fun i => (i.zero, i.size, i.bytes)) = some (some (.agg Cl.zero.a), 65, 72) := by kernel_rfl
theorem guard34 : Tryz.prog.eqGuardType Tryz.prog.depth 69 = false := by kernel_rfl
theorem buildC34 (n : Int) (K C : Sm) (w : World) : (Instr.build 69 #[(0, .int .i64 n), (1, .agg (u8s K.l)), (2, .agg (u8s C.l))]).run Tryz.prog w = .ok (.agg (Cl.mk n K C).a) w := by rw [cl_cellA]; exact build_cell34 n _ _ K.size C.size w
theorem buildZ34 (w : World) : (Instr.build 69 #[]).run Tryz.prog w = .ok (.agg Cl.zero.a) w := by rw [← zero65_is]; exact build_zero34 w
section
variable {P : Program} {w0 : World} {Γ : Ctx} {o : Oper}
/-- The address of a field. -/
theorem run_fieldAt {t ft : TypeId} {fs : Array Field} {i off sz : Nat} (hu : P.underlying t = some (.struct fs)) (hf : (fs[i]?).map (fun f => (f.type, f.offset)) = some (ft, off)) (hz : (P.info? ft).map (·.size) = some (sz + 1)) (g o2 : Nat) (w : World) : (Instr.fieldAt t (.pointer (some ⟨g, o2, none⟩)) i).run P w = .ok (.pointer (some ⟨g, o2 + off, none⟩)) w := by
  obtain ⟨f, h1, h2⟩ := Option.map_eq_some_iff.1 hf
  simp only [Prod.mk.injEq] at h2
  obtain ⟨rfl, rfl⟩ := h2
  obtain ⟨inf, hinf, hsz⟩ := Option.map_eq_some_iff.1 hz
  simp [Instr.fieldAt, fieldPlace, run_underlying hu, h1, Instr.sureAddr, sizeOf, typeInfo, hinf, hsz, Addr.add_lit]
theorem cFieldE {t e ft : TypeId} {fs : Array Field} {i off sz : Nat} {x : Operand} {xs : List Value} (ho : o.op = .fieldAddr t x i) (hx : Has w0 Γ x (Ty.at_ e xs)) (hu : P.underlying t = some (.struct fs)) (hf : (fs[i]?).map (fun f => (f.type, f.offset)) = some (ft, off)) (hz : (P.info? ft).map (·.size) = some (sz + 1)) : OpOk P w0 Γ o (Ty.at_ e (xs.drop off)) :=
  .val fun a w hb hs => by
    obtain ⟨v, h1, g, o2, cs, fr, rfl, h2, h3⟩ := hx.see hs (by simp [ho, Op.operands]) hb
    refine ⟨_, ⟨g, o2 + off, cs, fr, rfl, h2, fun j u hu => ?_⟩, ?_⟩
    · rw [List.getElem?_drop] at hu
      rw [Nat.add_assoc]
      exact h3 _ u hu
    · unfold execOp
      simp [ho, h1, run_fieldAt hu hf hz]
theorem cFieldExE {t ft : TypeId} {fs : Array Field} {i off sz g o2 : Nat} {x : Operand} (ho : o.op = .fieldAddr t x i) (hx : OpT Γ x (Ty.ex (.pointer (some ⟨g, o2, none⟩)))) (hu : P.underlying t = some (.struct fs)) (hf : (fs[i]?).map (fun f => (f.type, f.offset)) = some (ft, off)) (hz : (P.info? ft).map (·.size) = some (sz + 1)) : OpOk P w0 Γ o (Ty.ex (.pointer (some ⟨g, o2 + off, none⟩))) :=
  .val fun a w _ hs => by
    obtain ⟨v, h1, h2⟩ := hs x _ (by simp [ho, Op.operands]) hx
    have h2 : v = .pointer (some ⟨g, o2, none⟩) := h2
    refine ⟨_, rfl, ?_⟩
    unfold execOp
    simp [ho, h1, h2, run_fieldAt hu hf hz]
theorem cBuild3 {t : TypeId} {x y z : Operand} {v u q r : Value} (ho : o.op = .build t #[(0, x), (1, y), (2, z)]) (hx : OpT Γ x (Ty.ex v)) (hy : OpT Γ y (Ty.ex u)) (hz : OpT Γ z (Ty.ex q)) (hr : ∀ w : World, (Instr.build t #[(0, v), (1, u), (2, q)]).run P w = .ok r w) : OpOk P w0 Γ o (Ty.ex r) :=
  cBuildP (vs := #[(0, v), (1, u), (2, q)]) ho (fun a w hs => by
    obtain ⟨v', h1, h2⟩ := hs x _ (by simp [ho, Op.operands]) hx
    obtain ⟨u', h3, h4⟩ := hs y _ (by simp [ho, Op.operands]) hy
    obtain ⟨q', h5, h6⟩ := hs z _ (by simp [ho, Op.operands]) hz
    have h2 : v' = v := h2
    have h4 : u' = u := h4
    have h6 : q' = q := h6
    simp [h1, h2, h3, h4, h5, h6]) hr
theorem cBuildE {t : TypeId} {r : Value} (ho : o.op = .build t #[]) (hr : ∀ w : World, (Instr.build t #[]).run P w = .ok r w) : OpOk P w0 Γ o (Ty.ex r) :=
  cBuildP (vs := #[]) ho (fun a w hs => by simp) hr
end
theorem Cl.d33 (c : Cl) : c.enc.drop 33 = c.check.enc := by
  have h : c.key.enc.length = 32 := by simp [Sm.enc, c.key.len]
  unfold Cl.enc
  rw [List.drop_succ_cons, List.drop_append_of_le_length (by omega), List.drop_of_length_le (by omega)]
  rfl
theorem at_pre {e : TypeId} {xs ys : List Value} : ∀ w v, (Ty.at_ e (xs ++ ys)).p w v → (Ty.at_ e xs).p w v := fun w v ⟨g, off, cs, fr, h1, h2, h3⟩ => ⟨g, off, cs, fr, h1, h2, fun j u hu => h3 j u (by rw [List.getElem?_append_left (List.getElem?_eq_some_iff.1 hu).1]; exact hu)⟩
theorem size_i64 : (Tryz.prog.info? 2).map (·.size) = some 1 := by kernel_rfl
theorem cBoxCl {P : Program} {w0 : World} {Γ : Ctx} {o : Oper} {t : TypeId} {x : Operand} {c : Cl} (ho : o.op = .box t x) (hx : OpT Γ x (Ty.ex (.agg c.a))) : OpOk P w0 Γ o (Ty.at_ t c.enc) := cBox ho hx
section
variable {w0 : World} {Γ : Ctx} {o : Oper} {x : Operand} {e : TypeId} {c : Cl}
theorem cFldN34 (ho : o.op = .fieldAddr 69 x 0) (hx : Has w0 Γ x (Ty.at_ e c.enc)) : OpOk Tryz.prog w0 Γ o (Ty.at_ e [.int .i64 c.n]) :=
  (cFieldE (P := Tryz.prog) ho hx Tryz.underlying69 rfl size_i64).conv fun w v h => at_pre (xs := [.int .i64 c.n]) (ys := c.key.enc ++ c.check.enc) w v h
theorem cFldK34 (ho : o.op = .fieldAddr 69 x 1) (hx : Has w0 Γ x (Ty.at_ e c.enc)) : OpOk Tryz.prog w0 Γ o (Ty.at_ e c.key.enc) :=
  (cFieldE (P := Tryz.prog) ho hx Tryz.underlying69 rfl sizeS).conv fun w v h => at_pre (xs := c.key.enc) (ys := c.check.enc) w v h
theorem cFldC34 (ho : o.op = .fieldAddr 69 x 2) (hx : Has w0 Γ x (Ty.at_ e c.enc)) : OpOk Tryz.prog w0 Γ o (Ty.at_ e c.check.enc) :=
  (cFieldE (P := Tryz.prog) ho hx Tryz.underlying69 rfl sizeS).conv fun _ _ h => c.d33 ▸ h
theorem cLoadCl34 (ho : o.op = .load 69 x) (hx : Has w0 Γ x (Ty.at_ e c.enc)) : OpOk Tryz.prog w0 Γ o (Ty.ex (.agg c.a)) :=
  cLoadAll (cs := c.a) ho hx Tryz.underlying69 rfl (by rw [c.size]; exact info34)
theorem cLoadN (ho : o.op = .load 2 x) (hx : Has w0 Γ x (Ty.at_ e [.int .i64 c.n])) : OpOk Tryz.prog w0 Γ o (Ty.ex (.int .i64 c.n)) := cLoad1 ho hx (pts_at _ _) Tryz.underlying2 rfl
end
theorem wrap_is (a : Int) : IntKind.i64.wrap a = wrap64 a := by
  exact IntWalk.i64_left a
theorem xor_ty (x y : Sm) : Fn2 Tryz.prog 111 (Ty.ex (.agg (u8s x.l))) (Ty.ex (.agg (u8s y.l))) (Ty.ex (.agg (u8s (x.xor y).l))) :=
  ⟨fun args w => by kernel_rfl, fun w v u hv hu => by
    have hv : v = .agg (u8s x.l) := hv
    have hu : u = .agg (u8s y.l) := hu
    subst hv hu
    exact Ret.of (Xor_any x y w)⟩
end Go.Proofs.YtmefpnklgfhggaaGreatDoor

/- Regions by types: memory of the call's own that an operation takes over (append in place; constants that are frozen): each such slot has blocks of its own, told apart from all others. -/
namespace Go.Proofs.YtmefpnklgfhggaaGreatDoor
open Go.RowKit

/-- A type with the blocks that are its own. -/
structure OTy where
  τ : Ty
  q : World → Value → List Nat → Prop
  to : ∀ {w : World} {v : Value} {S : List Nat}, q w v S → τ.p w v
  st : ∀ {w w' : World} {v : Value} {S T : List Nat}, q w v S → Keeps T w w' → (∀ b ∈ S, b ∉ T) → q w' v S
  lt : ∀ {w : World} {v : Value} {S : List Nat}, q w v S → ∀ b ∈ S, b < w.heap.size
/-- Which slot an operation takes over. -/
def takes : List (Nat × Nat) → Nat → Option Nat
  | [], _ => none
  | p :: T, i => bif Nat.beq p.1 i then some p.2 else takes T i
section
variable {P : Program} {ops : Array Oper} {w0 : World} {Γ : Ctx} {o : Oper} {V U : OTy}
end

section
variable {P : Program} {w0 : World} {Γ : Ctx} {N n : Nat} {l : List Oper} {Vs : List OTy} {T : List (Nat × Nat)} {a0 : Act} {ops : Array Oper}
end

section
variable {P : Program} {w0 : World} {Γ : Ctx} {N : Nat} {Vs : List OTy} {a0 : Act}
end
/-! ### Lines -/
section
variable {P : Program} {w0 : World} {Γ : Ctx} {o : Oper}
end
/-- What hangs on blocks of another type. -/
theorem Ty.far (τ : Ty) {w w' : World} {v : Value} {g : Nat} {t : TypeId} {cs : Array Value} (h : τ.p w v) (k : Keeps [g] w w') (hb : Blk w g t cs) (he : τ.el t = false) : τ.p w' v := τ.st h k fun b hb' _ => by
  simp only [List.mem_singleton] at hb'
  subst hb'
  exact ⟨cs, t, (0, 0), hb, he⟩
/-- A slot's value under the letter that it is known by. -/
theorem Fr.letter {N : Nat} {Γ : Ctx} {a : Act} {w : World} (h : Fr N Γ a w) {s : Nat} {v : Value} (hs : a.tmps[s]? = some v) : Fr N ((s, Ty.ex v) :: Γ) a w := by
  refine ⟨h.size, h.defers, fun s' τ' hs' => ?_⟩
  by_cases hss : s = s'
  · subst hss
    rw [look_same] at hs'
    injection hs' with hs'
    subst hs'
    exact ⟨v, hs, rfl⟩
  · rw [look_ne _ _ hss] at hs'
    exact h.val s' τ' hs'
theorem SlP.form {w : World} {e : TypeId} {v : Value} {n : Nat} {xs : List Value} (h : SlP w e v n xs) : ∃ A c, v = .slice A n c ∧ n ≤ c ∧ c ≤ maxLen ∧ (A = none → c = 0) := by
  obtain ⟨A, c, h1, h2, h3, h4, _⟩ := h
  exact ⟨A, c, h1, h2, h3, fun e => (h4 e).2⟩
/-- The address of an element of a slice that is a letter. -/
theorem SlP.elem {w : World} {e : TypeId} {A : Option Addr} {n c : Nat} {xs : List Value} (h : SlP w e (.slice A n c) n xs) {k : Nat} (hk : k < xs.length) : ∃ g off, A = some ⟨g, off, none⟩ ∧ ∀ m, (Ty.at_ e (xs.drop m)).p w (.pointer (some ⟨g, off + m, none⟩)) := by
  obtain ⟨A', c', h1, h2, h3, h4, h5⟩ := h
  injection h1 with h1 _ h6
  subst h1 h6
  obtain ⟨g, off, cs, fr, rfl, h7, h8⟩ := h5 k _ (List.getElem?_eq_getElem hk)
  refine ⟨g, off, rfl, fun m => ⟨g, off + m, cs, fr, rfl, h7, fun j u hu => ?_⟩⟩
  rw [List.getElem?_drop] at hu
  obtain ⟨g', off', cs', fr', e1, h9, h10⟩ := h5 _ u hu
  injection e1 with e1
  injection e1 with e1 e2
  subst e1 e2
  rw [h7] at h9
  injection h9 with h9
  injection h9 with h9
  subst h9
  rw [Nat.add_assoc]
  exact h10
end Go.Proofs.YtmefpnklgfhggaaGreatDoor

/- Regions by types: one store over a variable of the call's own that may come at whatever place of the order. -/
namespace Go.Proofs.YtmefpnklgfhggaaGreatDoor
open Go.RowKit

theorem size_setC (b : Nat) : ∀ (vs : List Value) (o : Nat) (w : World), (w.setCells b o vs).heap.size = w.heap.size
  | [], _, _ => rfl
  | v :: vs, o, w => by
    rw [World.setCells, size_setC b vs]
    simp
/-- Lines that hold whether the store has been or not; the store itself, the p-th. -/
inductive LineW (P : Program) (ops : Array Oper) (w0 w1 : World) (t : TypeId) (g : Nat) (v : Value) (p : Nat) : Nat → Ctx → List Oper → List Ty → Prop
  | nil {i : Nat} {Γ : Ctx} : LineW P ops w0 w1 t g v p i Γ [] []
  | cons {i : Nat} {Γ : Ctx} {d : Nat} {o : Oper} {V : Ty} {os : List Oper} {Vs : List Ty} (hi : Nat.beq i p = false) (hd : o.dst = some d) (h0 : Fact P ops w0 Γ o V) (h1 : Fact P ops w1 Γ o V) (he : V.el t = false) (tl : LineW P ops w0 w1 t g v p (i + 1) ((d, V) :: Γ) os Vs) : LineW P ops w0 w1 t g v p i Γ (o :: os) (V :: Vs)
  | store {i : Nat} {Γ : Ctx} {o : Oper} {os : List Oper} {Vs : List Ty} {ty : TypeId} {x s : Nat} (hi : Nat.beq i p = true) (hd : o.dst = none) (hg : o.guard = none) (ho : o.op = .store ty (.tmp x) (.tmp s)) (hx : look Γ x = some (Ty.ex (.pointer (some ⟨g, 0, none⟩)))) (hs : look Γ s = some (Ty.ex v)) (hz : (P.info? ty).map (·.size) = some v.cells.size) (tl : LineW P ops w0 w1 t g v p (i + 1) Γ os Vs) : LineW P ops w0 w1 t g v p i Γ (o :: os) (Ty.any :: Vs)
def extW : Ctx → List Oper → List Ty → Ctx
  | Γ, o :: os, V :: Vs => match o.dst with | some d => extW ((d, V) :: Γ) os Vs | none => extW Γ os Vs
  | Γ, _, _ => Γ
def regW (ops : Array Oper) (N n p : Nat) : Bool := decide (p < n) && (List.range n).all fun i => match ops[i]? with
  | none => false
  | some o => if i == p then (o.after.all fun e => !Region.binds .any e || decide (e.on < i)) && o.dst.isNone &&
      (List.range n).all fun j => match ops[j]? with
        | none => false
        | some oj => (match oj.dst with | none => true | some d => !(o.looksAt ops).contains d || (if decide (j < i) then Region.waitsFor .any ops i j else Region.waitsFor .any ops j i))
    else okAt ops N n i o
section
variable {ops : Array Oper} {N n p : Nat}
theorem regW_at {i : Nat} (h : regW ops N n p = true) (hi : i < n) (hp : i ≠ p) : ∃ o d, ops[i]? = some o ∧ o.dst = some d ∧ d < N ∧ (∀ e ∈ o.after, Region.binds .any e = true → e.on < i) ∧
    ∀ (j : Nat) (oj : Oper), j < n → ops[j]? = some oj → j ≠ i → oj.dst ≠ some d ∧ (d ∈ oj.looksAt ops → (i < j → Region.waitsFor .any ops j i = true) ∧ (j < i → Region.waitsFor .any ops i j = true)) := by
  unfold regW at h
  rw [Bool.and_eq_true] at h
  have h1 := List.all_eq_true.1 h.2 i (List.mem_range.2 hi)
  cases ho : ops[i]? with
  | none => rw [ho] at h1; cases h1
  | some o =>
    rw [ho] at h1
    have hip : (i == p) = false := by simpa using hp
    simp only [hip, Bool.false_eq_true, if_false] at h1
    simp only [okAt, Bool.and_eq_true] at h1
    obtain ⟨h2, h3⟩ := h1
    cases hd : o.dst with
    | none => rw [hd] at h3; cases h3
    | some d =>
      rw [hd] at h3
      simp only [Bool.and_eq_true, decide_eq_true_eq] at h3
      refine ⟨o, d, rfl, hd, h3.1, fun e he hb => ?_, fun j oj hj hoj hne => ?_⟩
      · simp only [Array.all_eq_true_iff_forall_mem] at h2
        have := h2 e he
        simp [hb] at this
        exact this
      · have h4 := List.all_eq_true.1 h3.2 j (List.mem_range.2 hj)
        rw [hoj] at h4
        simp only [Bool.or_eq_true, Bool.and_eq_true, beq_iff_eq, bne_iff_ne, ne_eq, Bool.not_eq_true', hne, false_or] at h4
        refine ⟨h4.1, fun hm => ?_⟩
        have h5 := h4.2
        have h6 : ((oj.looksAt ops).contains d) = true := by simpa using hm
        rw [h6] at h5
        simp only [Bool.true_eq_false, false_or] at h5
        refine ⟨fun hlt => ?_, fun hlt => ?_⟩
        · rwa [if_pos (by simpa using hlt)] at h5
        · rwa [if_neg (by simp; omega)] at h5
theorem regW_p (h : regW ops N n p = true) : p < n ∧ ∃ o, ops[p]? = some o ∧ o.dst = none ∧ (∀ e ∈ o.after, Region.binds .any e = true → e.on < p) := by
  unfold regW at h
  rw [Bool.and_eq_true, decide_eq_true_eq] at h
  refine ⟨h.1, ?_⟩
  have h1 := List.all_eq_true.1 h.2 p (List.mem_range.2 h.1)
  cases ho : ops[p]? with
  | none => rw [ho] at h1; cases h1
  | some o =>
    rw [ho] at h1
    simp only [beq_self_eq_true, if_true, Bool.and_eq_true, Option.isNone_iff_eq_none] at h1
    refine ⟨o, rfl, h1.1.2, fun e he hb => ?_⟩
    have h2 := h1.1.1
    simp only [Array.all_eq_true_iff_forall_mem] at h2
    have := h2 e he
    simp [hb] at this
    exact this
theorem regW_back (h : regW ops N n p = true) : ∀ i o, i < n → ops[i]? = some o → ∀ e ∈ o.after, Region.binds .any e = true → e.on < i := fun i o hi ho e he hb => by
  by_cases hip : i = p
  · subst hip
    obtain ⟨_, o', ho', _, h2⟩ := regW_p h
    obtain rfl : o = o' := Option.some.inj (ho.symm.trans ho')
    exact h2 e he hb
  · obtain ⟨o', d, ho', _, _, h2, _⟩ := regW_at h hi hip
    obtain rfl : o = o' := Option.some.inj (ho.symm.trans ho')
    exact h2 e he hb
end
section
variable {P : Program} {ops : Array Oper} {w0 w1 : World} {t : TypeId} {g : Nat} {v : Value} {p : Nat} {Γ : Ctx}
/-- What the lines say of the i-th. -/
theorem LineW.at_ {m : Nat} {l : List Oper} {Vs : List Ty} (h : LineW P ops w0 w1 t g v p m Γ l Vs) : ∀ (i : Nat) (o : Oper), l[i]? = some o → ∃ V Γi, Vs[i]? = some V ∧
    (m + i ≠ p ∧ o.dst ≠ none ∧ V.el t = false ∧ Fact P ops w0 Γi o V ∧ Fact P ops w1 Γi o V ∨ m + i = p ∧ o.dst = none ∧ o.guard = none ∧ ∃ ty x s, o.op = .store ty (.tmp x) (.tmp s) ∧ look Γi x = some (Ty.ex (.pointer (some ⟨g, 0, none⟩))) ∧ look Γi s = some (Ty.ex v) ∧ (P.info? ty).map (·.size) = some v.cells.size) ∧
    ∀ (s : Nat) (τ : Ty), look Γi s = some τ → (∃ (j : Nat) (oj : Oper), j < i ∧ l[j]? = some oj ∧ oj.dst = some s ∧ Vs[j]? = some τ) ∨ ((∀ (j : Nat) (oj : Oper), j < i → l[j]? = some oj → oj.dst ≠ some s) ∧ look Γ s = some τ) := by
  induction h with
  | nil => intro i o h; simp at h
  | @cons m Γ d o V os Vs hi hd h0 h1 he tl ih =>
    intro i o' ho'
    cases i with
    | zero =>
      simp only [List.getElem?_cons_zero, Option.some.injEq] at ho'
      subst ho'
      exact ⟨V, Γ, rfl, .inl ⟨by simpa using fun e => by rw [e] at hi; simp at hi, by rw [hd]; simp, he, h0, h1⟩, fun s τ hl => .inr ⟨fun j oj hj => absurd hj (Nat.not_lt_zero _), hl⟩⟩
    | succ i =>
      simp only [List.getElem?_cons_succ] at ho'
      obtain ⟨V', Γi, k1, k2, k3⟩ := ih i o' ho'
      refine ⟨V', Γi, by simpa using k1, by rw [show m + (i + 1) = m + 1 + i by omega]; exact k2, fun s τ hl => ?_⟩
      rcases k3 s τ hl with ⟨j, oj, hj, hoj, hds, hVj⟩ | ⟨hno, hlk⟩
      · exact .inl ⟨j + 1, oj, by omega, by simpa using hoj, hds, by simpa using hVj⟩
      · by_cases hds : d = s
        · subst hds
          rw [look_same] at hlk
          injection hlk with hlk
          subst hlk
          exact .inl ⟨0, o, by omega, rfl, hd, rfl⟩
        · rw [look_ne _ _ hds] at hlk
          refine .inr ⟨fun j oj hj hoj => ?_, hlk⟩
          cases j with
          | zero =>
            simp only [List.getElem?_cons_zero, Option.some.injEq] at hoj
            subst hoj
            rw [hd]
            simpa using hds
          | succ j => exact hno j oj (by omega) (by simpa using hoj)
  | @store m Γ o os Vs ty x s hi hd hg ho hx hs hz tl ih =>
    intro i o' ho'
    cases i with
    | zero =>
      simp only [List.getElem?_cons_zero, Option.some.injEq] at ho'
      subst ho'
      exact ⟨Ty.any, Γ, rfl, .inr ⟨Nat.eq_of_beq_eq_true hi, hd, hg, ty, x, s, ho, hx, hs, hz⟩, fun s τ hl => .inr ⟨fun j oj hj => absurd hj (Nat.not_lt_zero _), hl⟩⟩
    | succ i =>
      simp only [List.getElem?_cons_succ] at ho'
      obtain ⟨V', Γi, k1, k2, k3⟩ := ih i o' ho'
      refine ⟨V', Γi, by simpa using k1, by rw [show m + (i + 1) = m + 1 + i by omega]; exact k2, fun s τ hl => ?_⟩
      rcases k3 s τ hl with ⟨j, oj, hj, hoj, hds, hVj⟩ | ⟨hno, hlk⟩
      · exact .inl ⟨j + 1, oj, by omega, by simpa using hoj, hds, by simpa using hVj⟩
      · refine .inr ⟨fun j oj hj hoj => ?_, hlk⟩
        cases j with
        | zero =>
          simp only [List.getElem?_cons_zero, Option.some.injEq] at hoj
          subst hoj
          rw [hd]
          simp
        | succ j => exact hno j oj (by omega) (by simpa using hoj)
theorem LineW.ext_look {m : Nat} {l : List Oper} {Vs : List Ty} (h : LineW P ops w0 w1 t g v p m Γ l Vs) : ∀ (s : Nat) (τ : Ty), look (extW Γ l Vs) s = some τ →
    (∃ (j : Nat) (oj : Oper), l[j]? = some oj ∧ oj.dst = some s ∧ Vs[j]? = some τ) ∨ ((∀ (j : Nat) (oj : Oper), l[j]? = some oj → oj.dst ≠ some s) ∧ look Γ s = some τ) := by
  induction h with
  | nil => intro s τ hl; exact .inr ⟨fun j oj h => by simp at h, hl⟩
  | @cons m Γ d o V os Vs hi hd h0 h1 he tl ih =>
    intro s τ hl
    have e : extW Γ (o :: os) (V :: Vs) = extW ((d, V) :: Γ) os Vs := by simp [extW, hd]
    rw [e] at hl
    rcases ih s τ hl with ⟨j, oj, hoj, hds, hVj⟩ | ⟨hno, hlk⟩
    · exact .inl ⟨j + 1, oj, by simpa using hoj, hds, by simpa using hVj⟩
    · by_cases hds : d = s
      · subst hds
        rw [look_same] at hlk
        injection hlk with hlk
        subst hlk
        exact .inl ⟨0, o, rfl, hd, rfl⟩
      · rw [look_ne _ _ hds] at hlk
        refine .inr ⟨fun j oj hoj => ?_, hlk⟩
        cases j with
        | zero =>
          simp only [List.getElem?_cons_zero, Option.some.injEq] at hoj
          subst hoj
          rw [hd]
          simpa using hds
        | succ j => exact hno j oj (by simpa using hoj)
  | @store m Γ o os Vs ty x s hi hd hg ho hx hs hz tl ih =>
    intro s' τ hl
    have e : extW Γ (o :: os) (Ty.any :: Vs) = extW Γ os Vs := by simp [extW, hd]
    rw [e] at hl
    rcases ih s' τ hl with ⟨j, oj, hoj, hds, hVj⟩ | ⟨hno, hlk⟩
    · exact .inl ⟨j + 1, oj, by simpa using hoj, hds, by simpa using hVj⟩
    · refine .inr ⟨fun j oj hoj => ?_, hlk⟩
      cases j with
      | zero =>
        simp only [List.getElem?_cons_zero, Option.some.injEq] at hoj
        subst hoj
        rw [hd]
        simp
      | succ j => exact hno j oj (by simpa using hoj)
end
/-- Of the operations that are listed. -/
structure TInvW (N n p : Nat) (l : List Oper) (Vs : List Ty) (a0 : Act) (w0 w1 : World) (listed : Array Bool) (a : Act) (w : World) : Prop where
  below : Below w0.heap.size (if listed.getD p false then w1 else w0) w
  defers : a.defers = []
  size : a.tmps.size = N
  out : ∀ s, (∀ (j : Nat) (oj : Oper), j < n → listed.getD j false = true → l[j]? = some oj → oj.dst ≠ some s) → a.tmps[s]? = a0.tmps[s]?
  vals : ∀ (j : Nat) (oj : Oper) (d : Nat) (V : Ty), j < n → listed.getD j false = true → l[j]? = some oj → oj.dst = some d → Vs[j]? = some V → ∃ v, a.tmps[d]? = some v ∧ V.p w v

section
variable {P : Program} {w0 w1 : World} {t : TypeId} {g : Nat} {v : Value} {Γ : Ctx} {N n p : Nat} {l : List Oper} {Vs : List Ty} {a0 : Act} {ops : Array Oper} {cs : Array Value}
theorem TInvW.start (hF : Fr N Γ a0 w0) {w : World} (hb : Below w0.heap.size w0 w) (m : Nat) : TInvW N n p l Vs a0 w0 w1 (Array.replicate m false) a0 w :=
  ⟨by rw [getD_replicate_false, if_neg (by simp)]; exact hb, hF.defers, hF.size, fun _ _ => rfl, fun j _ _ _ _ h => (by rw [getD_replicate_false] at h; cases h)⟩
/-- What holds of Γ's slots while the region is under way. -/
theorem TInvW.old (hF : Fr N Γ a0 w0) (hΓ : Γ.free t = true) (hblk : Blk w0 g t cs) (hw1 : w1 = w0.setCells g 0 v.cells.toList) {listed : Array Bool} {a : Act} {w : World} (hI : TInvW N n p l Vs a0 w0 w1 listed a w) {s : Nat} {τ : Ty} (hs : look Γ s = some τ) : ∃ u, a0.tmps[s]? = some u ∧ τ.p w u := by
  obtain ⟨u, h1, h2⟩ := hF.val s τ hs
  refine ⟨u, h1, ?_⟩
  have hk : Keeps [g] w0 w1 := by rw [hw1]; exact Keeps.setCells (.inl (by simp)) _ _ (Keeps.refl _ _)
  have hsz : w1.heap.size = w0.heap.size := by rw [hw1]; exact size_setC _ _ _ _
  have hbl := hI.below
  by_cases hd : listed.getD p false = true
  · rw [if_pos hd] at hbl
    exact τ.below (τ.far h2 hk hblk (Ctx.free_look hΓ hs)) (by rw [hsz]; exact hbl)
  · rw [if_neg hd] at hbl
    exact τ.below h2 hbl
theorem TInvW.step (hB : regW ops N n p = true) (hl : ∀ i, i < n → l[i]? = ops[i]?) (hL : LineW P ops w0 w1 t g v p 0 Γ l Vs) (hF : Fr N Γ a0 w0) (hΓ : Γ.free t = true) (hblk : Blk w0 g t cs) (hcs : v.cells.size = cs.size) (hone : v.cells.all (·.oneCell') = true) (hw1 : w1 = w0.setCells g 0 v.cells.toList) {listed : Array Bool} {a : Act} {w : World} (hI : TInvW N n p l Vs a0 w0 w1 listed a w)
    (hsz : listed.size = ops.size) (hcl : ∀ (j : Nat) (oj : Oper), ops[j]? = some oj → listed.getD j false = true → ∀ e ∈ oj.after, Region.binds .any e = true → listed.getD e.on false = true)
    {i : Nat} {o : Oper} (hi : i < n) (ho : ops[i]? = some o) (hun : listed.getD i false = false) (hdep : ∀ e ∈ o.after, Region.binds .any e = true → listed.getD e.on false = true) (K : Act → World → Prop) (Q : Exit → Act → World → Prop)
    (hK : ∀ a' w', TInvW N n p l Vs a0 w0 w1 (listed.setIfInBounds i true) a' w' → K a' w') :
    if Region.wanted o (yielded ops a.tmps) then o.wp P a w K Q else K (a.put o.dst undef) w := by
  have hli : l[i]? = some o := (hl i hi).trans ho
  obtain ⟨V, Γi, hV, hFa, hlk⟩ := hL.at_ i o hli
  rw [Nat.zero_add] at hFa
  have hk01 : Keeps [g] w0 w1 := by rw [hw1]; exact Keeps.setCells (.inl (by simp)) _ _ (Keeps.refl _ _)
  have hsz1 : w1.heap.size = w0.heap.size := by rw [hw1]; exact size_setC _ _ _ _
  have hblk1 : Blk w1 g t v.cells := by
    have h := hblk.setCells v.cells.toList 0
    rw [splice_all _ _ (by simpa using hcs)] at h
    rw [hw1]
    simpa using h
  have hilt : i < listed.size := by rw [hsz]; exact (Array.getElem?_eq_some_iff.1 ho).1
  have wf : ∀ {p q : Nat} {op : Oper}, ops[p]? = some op → Region.waitsFor .any ops p q = true → ∃ e ∈ op.after, Region.binds .any e = true ∧ e.on = q := fun {p q op} hp hw => by
    obtain ⟨oj, hoj, e, he, hb, hon⟩ := Region.waitsFor_spec hw
    obtain rfl : op = oj := Option.some.inj (hp.symm.trans hoj)
    exact ⟨e, he, hb, hon⟩
  have hsees : Sees ops Γi o a w := by
    intro s τ hs hls
    rcases hlk s τ hls with ⟨j, oj, hj, hoj, hds, hVj⟩ | ⟨hno, hl0⟩
    · have hjn : j < n := by omega
      have hoj' : ops[j]? = some oj := (hl j hjn).symm.trans hoj
      have hjp : j ≠ p := fun h => by
        subst h
        obtain ⟨_, o', ho', hn', _⟩ := regW_p hB
        obtain rfl : oj = o' := Option.some.inj (hoj'.symm.trans ho')
        rw [hn'] at hds; cases hds
      obtain ⟨oj2, dj, hoj2, hdj, _, _, hothj⟩ := regW_at hB hjn hjp
      obtain rfl : oj = oj2 := Option.some.inj (hoj'.symm.trans hoj2)
      obtain rfl : dj = s := Option.some.inj (hdj.symm.trans hds)
      have h1 := ((hothj i o hi ho (by omega)).2 hs).1 hj
      obtain ⟨e, he, hb, hon⟩ := wf ho h1
      have h2 := hdep e he hb
      rw [hon] at h2
      exact hI.vals j oj dj τ hjn h2 hoj hdj hVj
    · obtain ⟨u, hu1, hu2⟩ := hI.old hF hΓ hblk hw1 hl0
      refine ⟨u, ?_, hu2⟩
      rw [hI.out s (fun k ok hk hlk' hok hdk => ?_)]
      · exact hu1
      · have hok' : ops[k]? = some ok := (hl k hk).symm.trans hok
        have hki : k ≠ i := fun h => by subst h; rw [hun] at hlk'; cases hlk'
        have hkp : k ≠ p := fun h => by
          subst h
          obtain ⟨_, o', ho', hn', _⟩ := regW_p hB
          obtain rfl : ok = o' := Option.some.inj (hok'.symm.trans ho')
          rw [hn'] at hdk; cases hdk
        by_cases hlt : k < i
        · exact hno k ok hlt hok hdk
        · obtain ⟨ok2, dk, hok2, hdk2, _, _, hothk⟩ := regW_at hB hk hkp
          obtain rfl : ok = ok2 := Option.some.inj (hok'.symm.trans hok2)
          obtain rfl : dk = s := Option.some.inj (hdk2.symm.trans hdk)
          have h1 := ((hothk i o hi ho (Ne.symm hki)).2 hs).2 (by omega)
          obtain ⟨e, he, hb, hon⟩ := wf hok' h1
          have h2 := hcl k ok hok' hlk' e he hb
          rw [hon, hun] at h2
          cases h2
  rcases hFa with ⟨hip, hdn, hel, hF0, hF1⟩ | ⟨hip, hdn, hg, ty, x, s, hop, hx, hs, hz⟩
  · obtain ⟨o', d, ho', hd, hdN, _, hoth⟩ := regW_at hB hi hip
    obtain rfl : o = o' := Option.some.inj (ho.symm.trans ho')
    have hdne : ∀ (j : Nat) (oj : Oper) (dj : Nat), j < n → j ≠ i → l[j]? = some oj → oj.dst = some dj → d ≠ dj := fun j oj dj hj hne hoj hdj h => by
      subst h
      exact (hoth j oj hj ((hl j hj).symm.trans hoj) hne).1 hdj
    have hgp : (listed.setIfInBounds i true).getD p false = listed.getD p false := getD_set_ne false hip
    have fin : ∀ u w', V.p w' u → Below w.heap.size w w' → K (a.put o.dst u) w' := fun u w' hv hb => by
      refine hK _ _ ?_
      rw [hd]
      have hws : w0.heap.size ≤ w.heap.size := by
        have := hI.below.size
        split at this
        · omega
        · exact this
      refine ⟨by rw [hgp]; exact hI.below.trans (hb.mono hws), hI.defers, by simp only [Act.put]; simpa using hI.size, fun s hs => ?_, fun j oj dj Vj hj hlj hoj hdj hVj => ?_⟩
      · have hds : d ≠ s := fun h => hs i o hi (by simp [Array.getD, hilt]) hli (by rw [hd, h])
        simp only [Act.put]
        rw [Array.getElem?_setIfInBounds_ne hds]
        refine hI.out s (fun j oj hj hlj hoj => ?_)
        refine hs j oj hj ?_ hoj
        by_cases hij : i = j
        · subst hij; rw [hun] at hlj; cases hlj
        · rw [getD_set_ne false hij]; exact hlj
      · by_cases hij : i = j
        · subst hij
          obtain rfl : o = oj := Option.some.inj (hli.symm.trans hoj)
          obtain rfl : d = dj := Option.some.inj (hd.symm.trans hdj)
          obtain rfl : V = Vj := Option.some.inj (hV.symm.trans hVj)
          refine ⟨u, ?_, hv⟩
          simp only [Act.put]
          rw [Array.getElem?_setIfInBounds_self, if_pos (by rw [hI.size]; exact hdN)]
        · rw [getD_set_ne false hij] at hlj
          obtain ⟨u', h1, h2⟩ := hI.vals j oj dj Vj hj hlj hoj hdj hVj
          refine ⟨u', ?_, Vj.below h2 hb⟩
          simp only [Act.put]
          rw [Array.getElem?_setIfInBounds_ne (hdne j oj dj hj (Ne.symm hij) hoj hdj)]
          exact h1
    have hbl := hI.below
    by_cases hdone : listed.getD p false = true
    · rw [if_pos hdone, ← hsz1] at hbl
      exact hF1.at_work hbl hsees K Q (fun u w' h1 h2 _ => fin u w' h1 h2)
    · rw [if_neg hdone] at hbl
      exact hF0.at_work hbl hsees K Q (fun u w' h1 h2 _ => fin u w' h1 h2)
  · subst hip
    have hbl := hI.below
    rw [if_neg (by rw [hun]; simp)] at hbl
    have hgw : Blk w g t cs := hblk.below hbl
    obtain ⟨ux, hux, ex⟩ := hsees x _ (by unfold Oper.looksAt; exact List.mem_append_left _ (by rw [hop]; simp [Op.operands])) hx
    obtain ⟨us, hus, es⟩ := hsees s _ (by unfold Oper.looksAt; exact List.mem_append_left _ (by rw [hop]; simp [Op.operands])) hs
    have ex : ux = .pointer (some ⟨g, 0, none⟩) := ex
    have es : us = v := es
    subst ex es
    have h3 : Keeps [g] w (w.setCells g 0 us.cells.toList) := Keeps.setCells (.inl (by simp)) _ _ (Keeps.refl _ _)
    have hgw' : Blk (w.setCells g 0 us.cells.toList) g t us.cells := by
      have h := hgw.setCells us.cells.toList 0
      rw [splice_all _ _ (by simpa using hcs)] at h
      simpa using h
    rw [if_pos (by simp [Region.wanted, hg])]
    have ea : a.eval (.tmp x) = .pointer (some ⟨g, 0, none⟩) := by simp [Act.eval, Array.getD_eq_getD_getElem?, hux]
    have eb : a.eval (.tmp s) = us := by simp [Act.eval, Array.getD_eq_getD_getElem?, hus]
    unfold Oper.wp execOp
    simp only [hop, ea, eb, Instr.storeAt, Instr.sureAddr, Sem.run_bind, Sem.run_pure, Result.andThen_ok, storeVar_cells ty _ us, run_storeVar_mid w g 0 ty us.cells (hgw.there (by omega)) hz hone]
    show K (a.put o.dst undef) _
    rw [hdn]
    refine hK _ _ ⟨?_, hI.defers, hI.size, fun s' hs' => ?_, fun j oj dj Vj hj hlj hoj hdj hVj => ?_⟩
    · rw [if_pos (by simp [Array.getD, hilt])]
      refine ⟨h3.os.trans (hbl.os.trans hk01.os.symm), h3.tape.trans (hbl.tape.trans hk01.tape.symm), h3.output.trans (hbl.output.trans hk01.output.symm), by rw [hsz1]; exact Nat.le_trans hbl.size h3.size, fun k hk => ?_⟩
      by_cases hkg : k = g
      · subst hkg
        exact hgw'.trans hblk1.symm
      · rw [h3.block k (Nat.lt_of_lt_of_le hk hbl.size) (by simpa using hkg), hbl.block k hk, hk01.block k hk (by simpa using hkg)]
    · refine hI.out s' (fun j oj hj hlj hoj => hs' j oj hj ?_ hoj)
      by_cases hij : i = j
      · subst hij; rw [hun] at hlj; cases hlj
      · rw [getD_set_ne false hij]; exact hlj
    · have hij : i ≠ j := fun h => by
        subst h
        obtain rfl : o = oj := Option.some.inj (hli.symm.trans hoj)
        rw [hdn] at hdj; cases hdj
      rw [getD_set_ne false hij] at hlj
      obtain ⟨u', k1, k2⟩ := hI.vals j oj dj Vj hj hlj hoj hdj hVj
      refine ⟨u', k1, Vj.far k2 h3 hgw ?_⟩
      obtain ⟨Vj', _, hVj', hFj, _⟩ := hL.at_ j oj hoj
      obtain rfl : Vj = Vj' := Option.some.inj (hVj.symm.trans hVj')
      rcases hFj with ⟨_, _, h, _⟩ | ⟨_, h, _⟩
      · exact h
      · rw [h] at hdj; cases hdj
theorem TInvW.all (hB : regW ops N n p = true) (hL : LineW P ops w0 w1 t g v p 0 Γ l Vs) (hn : n = l.length) (hF : Fr N Γ a0 w0) (hΓ : Γ.free t = true) (hblk : Blk w0 g t cs) (hw1 : w1 = w0.setCells g 0 v.cells.toList) {listed : Array Bool} {a : Act} {w : World} (hI : TInvW N n p l Vs a0 w0 w1 listed a w) (hall : ∀ i, i < n → listed.getD i false = true) :
    Fr N (extW Γ l Vs) a w ∧ Below w0.heap.size w1 w := by
  have lt : ∀ (j : Nat) (oj : Oper), l[j]? = some oj → j < n := fun j oj h => by rw [hn]; exact (List.getElem?_eq_some_iff.1 h).1
  have hp := hall p (regW_p hB).1
  have hbl := hI.below
  rw [if_pos hp] at hbl
  refine ⟨⟨hI.size, hI.defers, fun s τ hs => ?_⟩, hbl⟩
  rcases hL.ext_look s τ hs with ⟨j, oj, hoj, hds, hVj⟩ | ⟨hno, hl0⟩
  · exact hI.vals j oj s τ (lt j oj hoj) (hall j (lt j oj hoj)) hoj hds hVj
  · obtain ⟨u, h1, h2⟩ := hI.old hF hΓ hblk hw1 hl0
    exact ⟨u, by rw [hI.out s (fun j oj _ _ hoj => hno j oj hoj)]; exact h1, h2⟩
end

section
variable {P : Program} {w0 w1 : World} {t : TypeId} {g : Nat} {v : Value} {cs : Array Value} {Γ : Ctx} {N : Nat} {Vs : List Ty} {a0 : Act}
theorem region_w {id : Nat} {Q : Exit → Act → World → Prop} {l : List Oper} {draw : Bool} (n p : Nat) (hm : P.follows .mixedOrders = true) (hB : (regW l.toArray N n p && tailB l.toArray n) = true) (hF : Fr N Γ a0 w0) (hΓ : Γ.free t = true) (hblk : Blk w0 g t cs) (hcs : v.cells.size = cs.size) (hone : v.cells.all (·.oneCell') = true) (hw1 : w1 = w0.setCells g 0 v.cells.toList)
    (hL : LineW P l.toArray w0 w1 t g v p 0 Γ (l.take n) Vs)
    (hQ : ∀ a w, Fr N (extW Γ (l.take n) Vs) a w → Keeps [g] w0 w → Blk w g t v.cells → wpList P l.toArray Q (l.drop n) a w) : (Code.region id l.toArray draw).wp P Q a0 w0 := by
  rw [Bool.and_eq_true] at hB
  obtain ⟨hB, hT⟩ := hB
  have hsize : l.toArray.size = l.length := by simp
  have hnl : n ≤ l.toArray.size := by
    unfold tailB at hT
    split at hT
    · rename_i h; simp at h; simp [h]
    · simp only [Bool.and_eq_true, decide_eq_true_eq] at hT; omega
  have hlen : n = (l.take n).length := by simp at hnl ⊢; omega
  have hli : ∀ i, i < n → (l.take n)[i]? = l.toArray[i]? := fun i hi => by simp [hi]
  have hback : ∀ i o, i < n → l.toArray[i]? = some o → ∀ e ∈ o.after, Region.binds .any e = true → e.on < i := fun i o hi ho e he hb => by
    exact regW_back hB i o hi ho e he hb
  have fin : ∀ (listed : Array Bool) a w, TInvW N n p (l.take n) Vs a0 w0 w1 listed a w → (∀ i, i < n → listed.getD i false = true) → wpList P l.toArray Q (l.drop n) a w := fun listed a w hI hall => by
    obtain ⟨h1, h2⟩ := hI.all hB hL hlen hF hΓ hblk hw1 hall
    have hk01 : Keeps [g] w0 w1 := by rw [hw1]; exact Keeps.setCells (.inl (by simp)) _ _ (Keeps.refl _ _)
    have hsz1 : w1.heap.size = w0.heap.size := by rw [hw1]; exact size_setC _ _ _ _
    have hblk1 : Blk w1 g t v.cells := by
      have h := hblk.setCells v.cells.toList 0
      rw [splice_all _ _ (by simpa using hcs)] at h
      rw [hw1]
      simpa using h
    rw [← hsz1] at h2
    exact hQ a w h1 (hk01.trans (Keeps.of_below h2)) (hblk1.below h2)
  cases draw with
  | true =>
    have key : ∀ (f : Nat) (listed : Array Bool) (a : Act) (w : World), HeadInv .any l.toArray n listed → wanting n listed = f → TInvW N n p (l.take n) Vs a0 w0 w1 listed a w → wpAny P .any l.toArray Q (f + (l.toArray.size - n)) listed a w := by
      intro f
      induction f with
      | zero =>
        intro listed a w hH h0 hI
        have hall := wanting_zero h0
        have hdl : (l.drop n).length = l.toArray.size - n := by simp
        have e := all_listed hH hall hnl
        have hseq : Region.seqB .any l.toArray (l.toArray.size - n) n listed = true := by
          unfold tailB at hT
          split at hT
          · rename_i h
            have hz : n = l.toArray.size := by simpa using h
            have h2 : l.toArray.size - n = 0 := by omega
            rw [h2]
            simp only [Region.seqB, List.isEmpty_iff]
            unfold Region.ready
            rw [List.filter_eq_nil_iff]
            intro i hi
            have hi' := List.mem_range.1 hi
            have h3 := hall i (by omega)
            have hil : i < listed.size := by rw [hH.size]; exact hi'
            simp [Array.getD, hil] at h3 ⊢
            simp [h3]
          · simp only [Bool.and_eq_true] at hT
            rw [e]; exact hT.2
        have := wpAny_of_seq (md := .any) (Q' := Q) (l.drop n) n listed a w (fun j => by simp [List.getElem?_drop]) (by rw [hdl]; exact hseq) (fin listed a w hI hall)
        rw [Nat.zero_add]
        rwa [hdl] at this
      | succ f ih =>
        intro listed a w hH h0 hI
        rw [show f + 1 + (l.toArray.size - n) = (f + (l.toArray.size - n)) + 1 by omega]
        have hex : ∃ i, i < n ∧ listed.getD i true = false := by
          refine Classical.byContradiction fun hno => ?_
          have hz : wanting n listed = 0 := by
            unfold wanting
            rw [List.length_eq_zero_iff, List.filter_eq_nil_iff]
            intro i hi
            have hi' := List.mem_range.1 hi
            have hl : i < listed.size := by rw [hH.size]; omega
            have h1 : ¬ listed.getD i true = false := fun h => hno ⟨i, hi', h⟩
            simp [Array.getD, hl] at h1 ⊢
            exact h1
          omega
        obtain ⟨i0, hi0, hun0⟩ := hex
        refine ⟨fun hr => ?_, fun i hi => ?_⟩
        · exfalso
          have := ready_head hback hnl hH.size hr i0 hi0
          rw [getD_both hun0] at this
          cases this
        · obtain ⟨h1, o, ho, h2⟩ := mem_ready.1 hi
          have hin : i < n := Nat.lt_of_not_le fun h => by
            have hio := (Array.getElem?_eq_some_iff.1 ho).1
            unfold tailB at hT
            split at hT
            · rename_i h'; simp at h'; omega
            · simp only [Bool.and_eq_true, decide_eq_true_eq] at hT
              exact tail_waits hT.1.1.2 hT.1.2 hT.1.1.1 hH _ i0 rfl hi0 hun0 i h hi
          have hil : i < listed.size := by rw [hH.size]; omega
          have h3 := TInvW.step hB hli hL hF hΓ hblk hcs hone hw1 hI hH.size hH.closed hin ho (getD_both h1) h2 (wpAny P .any l.toArray Q (f + (l.toArray.size - n)) (listed.setIfInBounds i true)) Q (fun a' w' hI' => by
            refine ih _ a' w' (hH.set hi hin) ?_ hI'
            have := wanting_set hin hil (getD_both h1)
            omega)
          unfold wpOp
          simp only [ho]
          split
          · rename_i hw
            rw [if_pos hw] at h3
            exact .inl h3
          · rename_i hw
            rw [if_neg hw] at h3
            exact h3
    have inv0 : HeadInv .any l.toArray n (Array.replicate l.toArray.size false) :=
      ⟨by simp, fun j oj _ hl => (by rw [getD_replicate_false] at hl; cases hl), fun t _ ht => getD_in (by simpa using ht) (getD_replicate_false _ _)⟩
    have h0 : wanting n (Array.replicate l.toArray.size false) = n := by
      unfold wanting
      rw [List.filter_eq_self.2 (fun i _ => by rw [getD_replicate_false]; rfl), List.length_range]
    refine wp_region_any hm ?_
    have := key n _ a0 w0.drew inv0 h0 (TInvW.start hF (Below.refl _ _).drew _)
    rw [show n + (l.toArray.size - n) = l.toArray.size by omega] at this
    exact this
  | false =>
    have key : ∀ (f k : Nat) (a : Act) (w : World), k + f = n → TInvW N n p (l.take n) Vs a0 w0 w1 ((List.replicate k true ++ List.replicate (l.toArray.size - k) false).toArray) a w → wpList P l.toArray Q (l.drop k) a w := by
      intro f
      induction f with
      | zero =>
        intro k a w hk hI
        obtain rfl : k = n := by omega
        refine fin _ a w hI (fun i hi => ?_)
        simp [Array.getD, hi]
        omega
      | succ f ih =>
        intro k a w hk hI
        have hkn : k < n := by omega
        have hkl : k < l.length := by omega
        have hdrop : l.drop k = l[k] :: l.drop (k + 1) := by rw [List.drop_eq_getElem_cons hkl]
        have getD_k : ∀ m j, m ≤ l.toArray.size → (List.replicate m true ++ List.replicate (l.toArray.size - m) false).toArray.getD j false = decide (j < m) := fun m j hm => by
          by_cases hj : j < m
          · simp [Array.getD, hj]; omega
          · simp [Array.getD, List.getElem_append, hj]
        have ho : l.toArray[k]? = some l[k] := by simp [hkl]
        have hset : (List.replicate k true ++ List.replicate (l.toArray.size - k) false).toArray.setIfInBounds k true = (List.replicate (k + 1) true ++ List.replicate (l.toArray.size - (k + 1)) false).toArray := by
          apply Array.ext_getElem?
          intro j
          rw [show l.toArray.size - k = (l.toArray.size - (k + 1)) + 1 by omega, List.replicate_succ, List.replicate_succ']
          simp only [List.setIfInBounds_toArray, List.getElem?_toArray, List.append_assoc, List.singleton_append]
          rw [List.set_append_right _ _ (by simp)]
          simp
        rw [hdrop]
        refine wpList_step fun K hK => ?_
        refine TInvW.step hB hli hL hF hΓ hblk hcs hone hw1 hI (by simp; omega) (fun j oj hj hl e he hb => ?_) hkn ho (by rw [getD_k k k (by omega)]; simp) (fun e he hb => ?_) K Q (fun a' w' hI' => hK a' w' (ih (k + 1) a' w' (by omega) (by rw [← hset]; exact hI')))
        · rw [getD_k k _ (by omega)] at hl ⊢
          simp only [decide_eq_true_eq] at hl ⊢
          have := hback j oj (by omega) hj e he hb
          omega
        · rw [getD_k k _ (by omega)]
          simp only [decide_eq_true_eq]
          exact hback k _ hkn ho e he hb
    refine wp_region_lit ?_
    have := key n 0 a0 w0 (by omega) (by
      have e : (List.replicate 0 true ++ List.replicate (l.toArray.size - 0) false).toArray = Array.replicate l.toArray.size false := by simp
      rw [e]
      exact TInvW.start hF (Below.refl _ _) _)
    simpa using this
end
end Go.Proofs.YtmefpnklgfhggaaGreatDoor

/- The functions of layer 13 by types, the program's and the document's. -/
namespace Go.Proofs.YtmefpnklgfhggaaGreatDoor
open Go.RowKit

/-- Results of which the first lies in a variable. -/
theorem retCell2 {P : Program} {Γ : Ctx} {N : Nat} {a : Act} {w : World} {fn : Func} {R : Ending → World → Prop} {s s2 : Nat} {ty t : TypeId} {cs : Array Value} {g : Nat} {d : TypeDesc} {v2 : Value} (hF : Fr N Γ a w) (hr : fn.results = #[.cell s ty, .tmp s2]) (hs : look Γ s = some (Ty.ex (.pointer (some ⟨g, 0, none⟩)))) (hs2 : look Γ s2 = some (Ty.ex v2)) (hB : Blk w g t cs)
    (hu : P.underlying ty = some d) (hd : (match d with | .struct _ | .array _ _ => true | _ => false) = true) (hi : (P.info? ty).map (·.size) = some cs.size) (h : R (.returned (.tuple #[.agg cs, v2])) w) : bodyPost P fn R .ret a w := by
  have h1 : a.tmps[s]?.getD undef = .pointer (some ⟨g, 0, none⟩) := by have := hF.getEx hs; simpa [Act.eval, Array.getD_eq_getD_getElem?] using this
  have h2 : a.tmps[s2]?.getD undef = v2 := by have := hF.getEx hs2; simpa [Act.eval, Array.getD_eq_getD_getElem?] using this
  refine bodyPost_ret ?_ hF.defers h
  simp [results, hr, h1, h2, asAddr, run_loadVar_row w g t ty cs (0, 0) d hB hu hd hi]
theorem retCell3 {P : Program} {Γ : Ctx} {N : Nat} {a : Act} {w : World} {fn : Func} {R : Ending → World → Prop} {s s2 s3 : Nat} {ty t : TypeId} {cs : Array Value} {g : Nat} {d : TypeDesc} {v2 v3 : Value} (hF : Fr N Γ a w) (hr : fn.results = #[.cell s ty, .tmp s2, .tmp s3]) (hs : look Γ s = some (Ty.ex (.pointer (some ⟨g, 0, none⟩)))) (hs2 : look Γ s2 = some (Ty.ex v2)) (hs3 : look Γ s3 = some (Ty.ex v3)) (hB : Blk w g t cs)
    (hu : P.underlying ty = some d) (hd : (match d with | .struct _ | .array _ _ => true | _ => false) = true) (hi : (P.info? ty).map (·.size) = some cs.size) (h : R (.returned (.tuple #[.agg cs, v2, v3])) w) : bodyPost P fn R .ret a w := by
  have h1 : a.tmps[s]?.getD undef = .pointer (some ⟨g, 0, none⟩) := by have := hF.getEx hs; simpa [Act.eval, Array.getD_eq_getD_getElem?] using this
  have h2 : a.tmps[s2]?.getD undef = v2 := by have := hF.getEx hs2; simpa [Act.eval, Array.getD_eq_getD_getElem?] using this
  have h3 : a.tmps[s3]?.getD undef = v3 := by have := hF.getEx hs3; simpa [Act.eval, Array.getD_eq_getD_getElem?] using this
  refine bodyPost_ret ?_ hF.defers h
  simp [results, hr, h1, h2, h3, asAddr, run_loadVar_row w g t ty cs (0, 0) d hB hu hd hi]
theorem sumSz (s : Sm) : (Value.agg (u8s s.l)).cells.size = (Value.agg (u8s (List.replicate 32 0))).cells.size := by rw [zero32_size]; exact s.size
theorem clSz (c d : Cl) : (Value.agg c.a).cells.size = d.a.size := by rw [d.size]; exact c.size
set_option maxRecDepth 100000 in
theorem cellOf_ty (x : Sm) : Fn1 Tryz.prog 112 (Ty.ex (.agg (u8s x.l))) (Ty.ex (.agg (u8s (chk x).l))) := by
  refine ⟨fun args w => by kernel_rfl, fun w v hv => ?_⟩
  have hO := sumOf2_ty (e := 95) (τ := Ty.sl 5 1 ([67].map bv)) (σ := Ty.sl 28 32 x.enc) [67] x.l (reads_sl _ _ _) (by rw [x.len]; exact reads_sl _ _ _) (by simp) x.lt (by rw [x.len]; decide)
  have hY : shaL ([67] ++ x.l) = (chk x).l := rfl
  rw [hY] at hO
  generalize chk x = Y at *
  clear hY
  refine enter_ty 7 [Ty.ex (.agg (u8s x.l))] Tryz.func112 rfl (by kernel_rfl) ⟨hv, trivial⟩ fun a hF => ?_
  have hB := Below.refl w.heap.size w
  repeat with_reducible refine wp_seq ?_
  refine' reg_all hF ?_ mixed (by kernel_rfl) ?_
  rotate_left
  · repeat (first
        | exact Line.nil
        | (refine' Line.cons rfl (.new rfl rfl (run_alloc_i infoS) rfl) ?_; rotate_left)
        | ((refine' Line.cons rfl (.run rfl rfl ?_) ?_)
           any_goals exact cBoxSum rfl rfl
           rotate_left))
  intro a w1 hF hb hN
  have hBs := hB.size
  replace hB := hB.trans (hb.mono hB.size)
  dsimp only [ext, Option.getD] at hF
  repeat with_reducible first | refine wp_seq ?_ | refine nThen ?_
  obtain ⟨z, ⟨gx, rfl, hgx, hbx⟩, hF⟩ := hF.open (s := 2) rfl
  refine' region_ty 4 mixed (by kernel_rfl) hF ?_ ?_
  rotate_left
  · simp only [List.take_succ_cons, List.take_zero]
    repeat (first | exact Line.nil | ((refine' Line.cons rfl (.run rfl rfl ?_) ?_); (any_goals (first | exact cBuildV (vs := [.int .u8 67]) rfl (parts1v rfl rfl) Tryz.underlying95 infoU8 rfl (by simp [Value.cells]) (by decide) (by simp [maxLen]) | exact cSliceArr rfl (.t rfl) Tryz.underlying28 sizeU (by simp [maxLen]) | exact cBuildT (τs := [Ty.sl 5 1 ([67].map bv), Ty.sl 28 32 x.enc]) rfl (partsT2 rfl (.t rfl) (.t rfl) (Ty.sl_isSl _ _ _) (Ty.sl_isSl _ _ _)) Tryz.underlying123 infoB rfl | exact cCall1 rfl rfl hO)); rotate_left))
  intro a w2 hF hb hN
  have hBs := hB.size
  replace hB := hB.trans (hb.mono hB.size)
  simp only [List.take_succ_cons, List.take_zero, List.drop_succ_cons, List.drop_zero] at hF hN ⊢
  dsimp only [ext, Option.getD] at hF
  replace hbx := hbx.below hb
  refine tlStoreV (Δ := [(2, Ty.ex (.pointer (some ⟨_, 0, none⟩)))]) hF rfl rfl rfl rfl (hF.getEx (s := 6) rfl) hbx (sumSz Y) ((by show _ = some (u8s _).size; rw [Sm.size]; exact sizeS)) (u8s_one _) (hF.keep [2]) rfl ?_
  intro w3 hF hbx hkx
  refine wpList_nil ?_
  replace hB := below_own hB hkx (by intro y hy; simp only [List.mem_singleton] at hy; omega)
  repeat with_reducible first | refine nThen ?_ | refine wp_ret ?_
  refine retCell hF rfl rfl hbx (Tryz.underlying28) rfl ((by rw [show (Value.agg (u8s Y.l)).cells.size = 32 from Y.size]; exact sizeS)) ?_
  exact ⟨_, rfl, rfl, hB⟩
set_option maxRecDepth 100000 in
theorem change_ty (c : Cl) (x : Sm) (n : Int) : Fn3 Tryz.prog 77 (Ty.ex (.agg c.a)) (Ty.ex (.agg (u8s x.l))) (Ty.ex (.int .i64 n)) (Ty.ex (.agg (c.put x n).a)) := by
  refine ⟨fun args w => by kernel_rfl, fun w v u q hv hu hq => ?_⟩
  have hC := cellOf_ty x
  have hX1 := xor_ty c.key x
  have hX2 := xor_ty c.check (chk x)
  have hP : c.put x n = ⟨wrap64 (c.n + n), c.key.xor x, c.check.xor (chk x)⟩ := rfl
  rw [hP]
  clear hP
  generalize c.check.xor (chk x) = X2 at *
  generalize c.key.xor x = X1 at *
  generalize chk x = Y at *
  refine enter_ty 21 [Ty.ex (.agg c.a), Ty.ex (.agg (u8s x.l)), Ty.ex (.int .i64 n)] Tryz.func77 rfl (by kernel_rfl) ⟨hv, hu, hq, trivial⟩ fun a hF => ?_
  have hB := Below.refl w.heap.size w
  repeat with_reducible refine wp_seq ?_
  refine' reg_all hF ?_ mixed (by kernel_rfl) ?_
  rotate_left
  · repeat (first
        | exact Line.nil
        | (refine' Line.cons rfl (.new rfl rfl (run_alloc_i infoC34) rfl) ?_; rotate_left)
        | ((refine' Line.cons rfl (.run rfl rfl ?_) ?_)
           any_goals (first | exact cBoxCl rfl rfl | exact cBoxSum rfl rfl)
           rotate_left))
  intro a w1 hF hb hN
  have hBs := hB.size
  replace hB := hB.trans (hb.mono hB.size)
  dsimp only [ext, Option.getD] at hF
  repeat with_reducible first | refine wp_seq ?_ | refine nThen ?_
  obtain ⟨z, ⟨gx, rfl, hgx, hbx⟩, hF⟩ := hF.open (s := 6) rfl
  refine' region_ty 14 mixed (by kernel_rfl) hF ?_ ?_
  rotate_left
  · simp only [List.take_succ_cons, List.take_zero]
    repeat (first | exact Line.nil | ((refine' Line.cons rfl (.run rfl rfl ?_) ?_); (any_goals (first | exact cMove rfl rfl | exact cFldN34 rfl (.t rfl) | exact cFldK34 rfl (.t rfl) | exact cFldC34 rfl (.t rfl) | exact cLoadN rfl (.t rfl) | exact cLoadSum rfl (.t rfl) Tryz.underlying28 sizeS | exact OpOk.v (cAddW rfl rfl rfl) (congrArg (Value.int .i64) (wrap_is _)) | exact cCall2 rfl rfl rfl hX1 | exact cCall2 rfl rfl rfl hX2 | exact cCall1 rfl rfl hC | exact cBuild3 rfl rfl rfl rfl (fun w => buildC34 _ _ _ w))); rotate_left))
  intro a w2 hF hb hN
  have hBs := hB.size
  replace hB := hB.trans (hb.mono hB.size)
  simp only [List.take_succ_cons, List.take_zero, List.drop_succ_cons, List.drop_zero] at hF hN ⊢
  dsimp only [ext, Option.getD] at hF
  replace hbx := hbx.below hb
  refine tlStoreV (Δ := [(6, Ty.ex (.pointer (some ⟨_, 0, none⟩)))]) hF rfl rfl rfl rfl (hF.getEx (s := 20) rfl) hbx (clSz _ _) ((by show _ = some (Cl.a _).size; rw [Cl.size]; exact info34)) (Cl.one _) (hF.keep [6]) rfl ?_
  intro w3 hF hbx hkx
  refine wpList_nil ?_
  replace hB := below_own hB hkx (by intro y hy; simp only [List.mem_singleton] at hy; omega)
  repeat with_reducible first | refine nThen ?_ | refine wp_ret ?_
  refine retCell hF rfl rfl hbx (Tryz.underlying69) rfl ((by show _ = some (Cl.a _).size; rw [Cl.size]; exact info34)) ?_
  exact ⟨_, rfl, rfl, hB⟩
set_option maxRecDepth 100000 in
theorem put_ty (c : Cl) (x : Sm) : Fn2 Tryz.prog 46 (Ty.ex (.agg c.a)) (Ty.ex (.agg (u8s x.l))) (Ty.ex (.agg (c.put x 1).a)) := by
  refine ⟨fun args w => by kernel_rfl, fun w v u hv hu => ?_⟩
  have hC := change_ty c x 1
  generalize c.put x 1 = d at *
  refine enter_ty 8 [Ty.ex (.agg c.a), Ty.ex (.agg (u8s x.l))] Tryz.func46 rfl (by kernel_rfl) ⟨hv, hu, trivial⟩ fun a hF => ?_
  have hB := Below.refl w.heap.size w
  repeat with_reducible refine wp_seq ?_
  refine' reg_all hF ?_ mixed (by kernel_rfl) ?_
  rotate_left
  · repeat (first
        | exact Line.nil
        | (refine' Line.cons rfl (.new rfl rfl (run_alloc_i infoC34) rfl) ?_; rotate_left)
        | ((refine' Line.cons rfl (.run rfl rfl ?_) ?_)
           any_goals (first | exact cBoxCl rfl rfl | exact cBoxSum rfl rfl)
           rotate_left))
  intro a w1 hF hb hN
  have hBs := hB.size
  replace hB := hB.trans (hb.mono hB.size)
  dsimp only [ext, Option.getD] at hF
  repeat with_reducible first | refine wp_seq ?_ | refine nThen ?_
  obtain ⟨z, ⟨gx, rfl, hgx, hbx⟩, hF⟩ := hF.open (s := 4) rfl
  refine' region_ty 3 mixed (by kernel_rfl) hF ?_ ?_
  rotate_left
  · simp only [List.take_succ_cons, List.take_zero]
    repeat (first | exact Line.nil | ((refine' Line.cons rfl (.run rfl rfl ?_) ?_); (any_goals (first | exact cLoadCl34 rfl (.t rfl) | exact cLoadSum rfl (.t rfl) Tryz.underlying28 sizeS | exact cCall3 rfl rfl rfl rfl hC)); rotate_left))
  intro a w2 hF hb hN
  have hBs := hB.size
  replace hB := hB.trans (hb.mono hB.size)
  simp only [List.take_succ_cons, List.take_zero, List.drop_succ_cons, List.drop_zero] at hF hN ⊢
  dsimp only [ext, Option.getD] at hF
  replace hbx := hbx.below hb
  refine tlStoreV (Δ := [(4, Ty.ex (.pointer (some ⟨_, 0, none⟩)))]) hF rfl rfl rfl rfl (hF.getEx (s := 7) rfl) hbx (clSz _ _) ((by show _ = some (Cl.a _).size; rw [Cl.size]; exact info34)) (Cl.one _) (hF.keep [4]) rfl ?_
  intro w3 hF hbx hkx
  refine wpList_nil ?_
  replace hB := below_own hB hkx (by intro y hy; simp only [List.mem_singleton] at hy; omega)
  repeat with_reducible first | refine nThen ?_ | refine wp_ret ?_
  refine retCell hF rfl rfl hbx (Tryz.underlying69) rfl ((by show _ = some (Cl.a _).size; rw [Cl.size]; exact info34)) ?_
  exact ⟨_, rfl, rfl, hB⟩
set_option maxRecDepth 100000 in
theorem take_ty (c : Cl) (x : Sm) : Fn2 Tryz.prog 134 (Ty.ex (.agg c.a)) (Ty.ex (.agg (u8s x.l))) (Ty.ex (.agg (c.put x (-1)).a)) := by
  refine ⟨fun args w => by kernel_rfl, fun w v u hv hu => ?_⟩
  have hC := change_ty c x (-1)
  generalize c.put x (-1) = d at *
  refine enter_ty 8 [Ty.ex (.agg c.a), Ty.ex (.agg (u8s x.l))] Tryz.func134 rfl (by kernel_rfl) ⟨hv, hu, trivial⟩ fun a hF => ?_
  have hB := Below.refl w.heap.size w
  repeat with_reducible refine wp_seq ?_
  refine' reg_all hF ?_ mixed (by kernel_rfl) ?_
  rotate_left
  · repeat (first
        | exact Line.nil
        | (refine' Line.cons rfl (.new rfl rfl (run_alloc_i infoC34) rfl) ?_; rotate_left)
        | ((refine' Line.cons rfl (.run rfl rfl ?_) ?_)
           any_goals (first | exact cBoxCl rfl rfl | exact cBoxSum rfl rfl)
           rotate_left))
  intro a w1 hF hb hN
  have hBs := hB.size
  replace hB := hB.trans (hb.mono hB.size)
  dsimp only [ext, Option.getD] at hF
  repeat with_reducible first | refine wp_seq ?_ | refine nThen ?_
  obtain ⟨z, ⟨gx, rfl, hgx, hbx⟩, hF⟩ := hF.open (s := 4) rfl
  refine' region_ty 3 mixed (by kernel_rfl) hF ?_ ?_
  rotate_left
  · simp only [List.take_succ_cons, List.take_zero]
    repeat (first | exact Line.nil | ((refine' Line.cons rfl (.run rfl rfl ?_) ?_); (any_goals (first | exact cLoadCl34 rfl (.t rfl) | exact cLoadSum rfl (.t rfl) Tryz.underlying28 sizeS | exact cCall3 rfl rfl rfl rfl hC)); rotate_left))
  intro a w2 hF hb hN
  have hBs := hB.size
  replace hB := hB.trans (hb.mono hB.size)
  simp only [List.take_succ_cons, List.take_zero, List.drop_succ_cons, List.drop_zero] at hF hN ⊢
  dsimp only [ext, Option.getD] at hF
  replace hbx := hbx.below hb
  refine tlStoreV (Δ := [(4, Ty.ex (.pointer (some ⟨_, 0, none⟩)))]) hF rfl rfl rfl rfl (hF.getEx (s := 7) rfl) hbx (clSz _ _) ((by show _ = some (Cl.a _).size; rw [Cl.size]; exact info34)) (Cl.one _) (hF.keep [4]) rfl ?_
  intro w3 hF hbx hkx
  refine wpList_nil ?_
  replace hB := below_own hB hkx (by intro y hy; simp only [List.mem_singleton] at hy; omega)
  repeat with_reducible first | refine nThen ?_ | refine wp_ret ?_
  refine retCell hF rfl rfl hbx (Tryz.underlying69) rfl ((by show _ = some (Cl.a _).size; rw [Cl.size]; exact info34)) ?_
  exact ⟨_, rfl, rfl, hB⟩
set_option maxRecDepth 100000 in
theorem cminus_ty (c d : Cl) : Fn2 Tryz.prog 103 (Ty.ex (.agg c.a)) (Ty.ex (.agg d.a)) (Ty.ex (.agg (c.minus d).a)) := by
  refine ⟨fun args w => by kernel_rfl, fun w v u hv hu => ?_⟩
  have hX1 := xor_ty c.key d.key
  have hX2 := xor_ty c.check d.check
  have hP : c.minus d = ⟨wrap64 (c.n - d.n), c.key.xor d.key, c.check.xor d.check⟩ := rfl
  rw [hP]
  clear hP
  generalize c.check.xor d.check = X2 at *
  generalize c.key.xor d.key = X1 at *
  refine enter_ty 21 [Ty.ex (.agg c.a), Ty.ex (.agg d.a)] Tryz.func103 rfl (by kernel_rfl) ⟨hv, hu, trivial⟩ fun a hF => ?_
  have hB := Below.refl w.heap.size w
  repeat with_reducible refine wp_seq ?_
  refine' reg_all hF ?_ mixed (by kernel_rfl) ?_
  rotate_left
  · repeat (first
        | exact Line.nil
        | (refine' Line.cons rfl (.new rfl rfl (run_alloc_i infoC34) rfl) ?_; rotate_left)
        | ((refine' Line.cons rfl (.run rfl rfl ?_) ?_)
           any_goals exact cBoxCl rfl rfl
           rotate_left))
  intro a w1 hF hb hN
  have hBs := hB.size
  replace hB := hB.trans (hb.mono hB.size)
  dsimp only [ext, Option.getD] at hF
  repeat with_reducible first | refine wp_seq ?_ | refine nThen ?_
  obtain ⟨z, ⟨gx, rfl, hgx, hbx⟩, hF⟩ := hF.open (s := 4) rfl
  refine' region_ty 16 mixed (by kernel_rfl) hF ?_ ?_
  rotate_left
  · simp only [List.take_succ_cons, List.take_zero]
    repeat (first | exact Line.nil | ((refine' Line.cons rfl (.run rfl rfl ?_) ?_); (any_goals (first | exact cFldN34 rfl (.t rfl) | exact cFldK34 rfl (.t rfl) | exact cFldC34 rfl (.t rfl) | exact cLoadN rfl (.t rfl) | exact cLoadSum rfl (.t rfl) Tryz.underlying28 sizeS | exact OpOk.v (cSubW rfl rfl rfl) (congrArg (Value.int .i64) (wrap_is _)) | exact cCall2 rfl rfl rfl hX1 | exact cCall2 rfl rfl rfl hX2 | exact cBuild3 rfl rfl rfl rfl (fun w => buildC34 _ _ _ w))); rotate_left))
  intro a w2 hF hb hN
  have hBs := hB.size
  replace hB := hB.trans (hb.mono hB.size)
  simp only [List.take_succ_cons, List.take_zero, List.drop_succ_cons, List.drop_zero] at hF hN ⊢
  dsimp only [ext, Option.getD] at hF
  replace hbx := hbx.below hb
  refine tlStoreV (Δ := [(4, Ty.ex (.pointer (some ⟨_, 0, none⟩)))]) hF rfl rfl rfl rfl (hF.getEx (s := 20) rfl) hbx (clSz _ _) ((by show _ = some (Cl.a _).size; rw [Cl.size]; exact info34)) (Cl.one _) (hF.keep [4]) rfl ?_
  intro w3 hF hbx hkx
  refine wpList_nil ?_
  replace hB := below_own hB hkx (by intro y hy; simp only [List.mem_singleton] at hy; omega)
  repeat with_reducible first | refine nThen ?_ | refine wp_ret ?_
  refine retCell hF rfl rfl hbx (Tryz.underlying69) rfl ((by show _ = some (Cl.a _).size; rw [Cl.size]; exact info34)) ?_
  exact ⟨_, rfl, rfl, hB⟩
set_option maxRecDepth 100000 in
theorem czero_ty (c : Cl) : Fn1 Tryz.prog 137 (Ty.ex (.agg c.a)) (Ty.ex (.bool (decide (c = Cl.zero)))) := by
  refine ⟨fun args w => by kernel_rfl, fun w v hv => ?_⟩
  refine enter_ty 6 [Ty.ex (.agg c.a)] Tryz.func137 rfl (by kernel_rfl) ⟨hv, trivial⟩ fun a hF => ?_
  have hB := Below.refl w.heap.size w
  repeat with_reducible refine wp_seq ?_
  refine' reg_all hF ?_ mixed (by kernel_rfl) ?_
  rotate_left
  · repeat (first | exact Line.nil | ((refine' Line.cons rfl (.run rfl rfl ?_) ?_); (any_goals (first | exact cAssign rfl rfl | exact cBoxCl rfl rfl)); rotate_left))
  intro a w1 hF hb hN
  have hBs := hB.size
  replace hB := hB.trans (hb.mono hB.size)
  dsimp only [ext, Option.getD] at hF
  repeat with_reducible first | refine wp_seq ?_ | refine nThen ?_
  refine' reg_all hF ?_ mixed (by kernel_rfl) ?_
  rotate_left
  · repeat (first | exact Line.nil | ((refine' Line.cons rfl (.run rfl rfl ?_) ?_); (any_goals (first | exact cAssign rfl rfl | exact cLoadCl34 rfl (.t rfl) | exact cBuildE rfl (fun w => buildZ34 w) | exact cEqlAgg rfl rfl rfl guard34 (fun w => eql_cl34 _ _ w))); rotate_left))
  intro a w2 hF hb hN
  have hBs := hB.size
  replace hB := hB.trans (hb.mono hB.size)
  dsimp only [ext, Option.getD] at hF
  repeat with_reducible first | refine nThen ?_ | refine wp_ret ?_
  refine ret1 hF rfl rfl fun z hz => ?_
  exact ⟨z, rfl, hz, hB⟩
theorem buildS0 (w : World) : (Instr.build 28 #[]).run Tryz.prog w = .ok (.agg (u8s Sm.zero.l)) w := by kernel_rfl
/-- What Pure tells of a cell. -/
def Cl.sum (c : Cl) : Sm := if c.ok then c.key else Sm.zero
def Cl.plus (c : Cl) : Bool := c.ok && decide (c.n = 1)
set_option maxRecDepth 100000 in
set_option maxHeartbeats 1000000 in
theorem pure_ty (c : Cl) : Fn1 Tryz.prog 132 (Ty.ex (.agg c.a)) (Ty.ex (.tuple #[.agg (u8s c.sum.l), .bool c.plus, .bool c.ok])) := by
  refine ⟨fun args w => by kernel_rfl, fun w v hv => ?_⟩
  have hC := cellOf_ty c.key
  have bad : ∀ (hok : c.ok = false), c.sum = Sm.zero ∧ c.plus = false := fun hok => by unfold Cl.sum Cl.plus; rw [hok]; exact ⟨rfl, rfl⟩
  by_cases hn : c.n = 1 ∨ c.n = -1
  rotate_left
  · have hok : c.ok = false := by
      unfold Cl.ok
      rw [decide_eq_false (fun h => hn (.inl h)), decide_eq_false (fun h => hn (.inr h))]
      rfl
    have h1 : (!decide (c.n = 1)) = true := by rw [decide_eq_false (fun h => hn (.inl h))]; rfl
    have h2 : (!decide (c.n = -1)) = true := by rw [decide_eq_false (fun h => hn (.inr h))]; rfl
    rw [(bad hok).1, (bad hok).2, hok]
    refine enter_ty 27 [Ty.ex (.agg c.a)] Tryz.func132 rfl (by kernel_rfl) ⟨hv, trivial⟩ fun a hF => ?_
    have hB := Below.refl w.heap.size w
    repeat with_reducible refine wp_seq ?_
    refine' reg_all hF ?_ mixed (by kernel_rfl) ?_
    rotate_left
    · repeat (first
          | exact Line.nil
          | (refine' Line.cons rfl (.new rfl rfl (run_alloc_i infoS) rfl) ?_; rotate_left)
          | ((refine' Line.cons rfl (.run rfl rfl ?_) ?_)
             any_goals (first | exact cAssign rfl rfl | exact cBoxCl rfl rfl)
             rotate_left))
    intro a w1 hF hb hN
    have hBs := hB.size
    replace hB := hB.trans (hb.mono hB.size)
    dsimp only [ext, Option.getD] at hF
    repeat with_reducible first | refine wp_seq ?_ | refine nThen ?_
    obtain ⟨z, ⟨gx, rfl, hgx, hbx⟩, hF⟩ := hF.open (s := 2) rfl
    refine' reg_all hF ?_ mixed (by kernel_rfl) ?_
    rotate_left
    · repeat (first | exact Line.nil | (refine' Line.cons rfl (.no rfl rfl rfl rfl rfl rfl) ?_; rotate_left) | ((first | refine' Line.cons rfl (.run rfl rfl ?_) ?_ | refine' Line.cons rfl (.yes rfl rfl rfl rfl ?_) ?_); (any_goals (first | exact cMove rfl rfl | exact cFldN34 rfl (.t rfl) | exact cLoadN rfl (.t rfl) | exact OpOk.b (cNeq rfl rfl rfl) h1 | exact OpOk.b (cNeq rfl rfl rfl) h2 | exact cPickT rfl rfl rfl)); rotate_left))
    intro a w2 hF hb hN
    have hBs := hB.size
    replace hB := hB.trans (hb.mono hB.size)
    dsimp only [ext, Option.getD] at hF
    repeat with_reducible refine nThen ?_
    replace hbx := hbx.below hb
    refine cond_t hF rfl ?_
    repeat with_reducible refine wp_seq ?_
    refine' region_ty 1 mixed (by kernel_rfl) hF ?_ ?_
    rotate_left
    · simp only [List.take_succ_cons, List.take_zero]
      repeat (first | exact Line.nil | ((refine' Line.cons rfl (.run rfl rfl ?_) ?_); (any_goals exact cBuildE rfl (fun w => buildS0 w)); rotate_left))
    intro a w3 hF hb hN
    have hBs := hB.size
    replace hB := hB.trans (hb.mono hB.size)
    simp only [List.take_succ_cons, List.take_zero, List.drop_succ_cons, List.drop_zero] at hF hN ⊢
    dsimp only [ext, Option.getD] at hF
    replace hbx := hbx.below hb
    refine tlStoreV (Δ := [(2, Ty.ex (.pointer (some ⟨gx, 0, none⟩)))]) hF rfl rfl rfl rfl (hF.getEx (s := 21) rfl) hbx (sumSz _) (by show _ = some (u8s _).size; rw [Sm.size]; exact sizeS) (u8s_one _) (hF.keep [2]) rfl ?_
    intro w4 hF hbx hkx
    replace hB := below_own hB hkx (by intro y hy; simp only [List.mem_singleton] at hy; omega)
    refine' tlOp hF rfl rfl rfl ?_ ?_
    rotate_left
    · exact cAssign rfl rfl
    intro a w5 hF hb
    have hBs := hB.size
    replace hB := hB.trans (hb.mono hB.size)
    try (refine wpList_nil ?_)
    replace hbx := hbx.below hb
    refine' tlOp hF rfl rfl rfl ?_ ?_
    rotate_left
    · exact cAssign rfl rfl
    intro a w6 hF hb
    have hBs := hB.size
    replace hB := hB.trans (hb.mono hB.size)
    try (refine wpList_nil ?_)
    repeat with_reducible first | refine nThen ?_ | refine wp_ret ?_ | refine rThen ?_
    replace hbx := hbx.below hb
    refine retCell3 hF rfl rfl rfl rfl hbx Tryz.underlying28 rfl (by show _ = some (u8s _).size; rw [Sm.size]; exact sizeS) ?_
    exact ⟨_, rfl, rfl, hB⟩
  by_cases hk : c.check = chk c.key
  rotate_left
  · have hok : c.ok = false := by
      unfold Cl.ok
      rw [decide_eq_false hk, Bool.and_false]
    rw [(bad hok).1, (bad hok).2, hok]
    refine enter_ty 27 [Ty.ex (.agg c.a)] Tryz.func132 rfl (by kernel_rfl) ⟨hv, trivial⟩ fun a hF => ?_
    have hB := Below.refl w.heap.size w
    repeat with_reducible refine wp_seq ?_
    refine' reg_all hF ?_ mixed (by kernel_rfl) ?_
    rotate_left
    · repeat (first
          | exact Line.nil
          | (refine' Line.cons rfl (.new rfl rfl (run_alloc_i infoS) rfl) ?_; rotate_left)
          | ((refine' Line.cons rfl (.run rfl rfl ?_) ?_)
             any_goals (first | exact cAssign rfl rfl | exact cBoxCl rfl rfl)
             rotate_left))
    intro a w1 hF hb hN
    have hBs := hB.size
    replace hB := hB.trans (hb.mono hB.size)
    dsimp only [ext, Option.getD] at hF
    repeat with_reducible first | refine wp_seq ?_ | refine nThen ?_
    obtain ⟨z, ⟨gx, rfl, hgx, hbx⟩, hF⟩ := hF.open (s := 2) rfl
    refine wp_mono (Q := fun e a w2 => e = .normal ∧ Fr 27 [(2, Ty.ex (.pointer (some ⟨gx, 0, none⟩))), (20, Ty.ex (.bool true))] a w2 ∧ Below w.heap.size w w2 ∧ Blk w2 gx 28 (Value.agg (u8s (List.replicate 32 0))).cells) ?_ ?_
    · rcases hn with h1 | h1
      · have e1 : (!decide (c.n = 1)) = false := by rw [decide_eq_true h1]; rfl
        refine' reg_all hF ?_ mixed (by kernel_rfl) ?_
        rotate_left
        · repeat (first | exact Line.nil | (refine' Line.cons rfl (.no rfl rfl rfl rfl rfl rfl) ?_; rotate_left) | ((first | refine' Line.cons rfl (.run rfl rfl ?_) ?_ | refine' Line.cons rfl (.yes rfl rfl rfl rfl ?_) ?_); (any_goals (first | exact cMove rfl rfl | exact cFldN34 rfl (.t rfl) | exact cLoadN rfl (.t rfl) | exact OpOk.b (cNeq rfl rfl rfl) e1 | exact cFldC34 rfl (.t rfl) | exact cFldK34 rfl (.t rfl) | exact cLoadSum rfl (.t rfl) Tryz.underlying28 sizeS | exact cCall1 rfl rfl hC | exact OpOk.b (c := true) (cNeqAgg rfl rfl rfl guardS (fun w => neqS _ _ w)) (by rw [decide_eq_false hk]; rfl) | exact cPickF rfl rfl rfl)); rotate_left))
        intro a w2 hF hb hN
        have hBs := hB.size
        replace hB := hB.trans (hb.mono hB.size)
        dsimp only [ext, Option.getD] at hF
        exact ⟨rfl, hF.keep [2, 20], hB, hbx.below hb⟩
      · have e1 : (!decide (c.n = 1)) = true := by rw [h1]; rfl
        have e2 : (!decide (c.n = -1)) = false := by rw [h1]; rfl
        refine' reg_all hF ?_ mixed (by kernel_rfl) ?_
        rotate_left
        · repeat (first | exact Line.nil | ((first | refine' Line.cons rfl (.run rfl rfl ?_) ?_ | refine' Line.cons rfl (.yes rfl rfl rfl rfl ?_) ?_); (any_goals (first | exact cMove rfl rfl | exact cFldN34 rfl (.t rfl) | exact cLoadN rfl (.t rfl) | exact OpOk.b (cNeq rfl rfl rfl) e1 | exact OpOk.b (cNeq rfl rfl rfl) e2 | exact cFldC34 rfl (.t rfl) | exact cFldK34 rfl (.t rfl) | exact cLoadSum rfl (.t rfl) Tryz.underlying28 sizeS | exact cCall1 rfl rfl hC | exact OpOk.b (c := true) (cNeqAgg rfl rfl rfl guardS (fun w => neqS _ _ w)) (by rw [decide_eq_false hk]; rfl) | exact cPickT rfl rfl rfl | exact cPickF rfl rfl rfl)); rotate_left))
        intro a w2 hF hb hN
        have hBs := hB.size
        replace hB := hB.trans (hb.mono hB.size)
        dsimp only [ext, Option.getD] at hF
        exact ⟨rfl, hF.keep [2, 20], hB, hbx.below hb⟩
    clear hF hB hbx
    rintro e a w2 ⟨rfl, hF, hB, hbx⟩
    repeat with_reducible refine nThen ?_
    refine cond_t hF rfl ?_
    repeat with_reducible refine wp_seq ?_
    refine' region_ty 1 mixed (by kernel_rfl) hF ?_ ?_
    rotate_left
    · simp only [List.take_succ_cons, List.take_zero]
      repeat (first | exact Line.nil | ((refine' Line.cons rfl (.run rfl rfl ?_) ?_); (any_goals exact cBuildE rfl (fun w => buildS0 w)); rotate_left))
    intro a w3 hF hb hN
    have hBs := hB.size
    replace hB := hB.trans (hb.mono hB.size)
    simp only [List.take_succ_cons, List.take_zero, List.drop_succ_cons, List.drop_zero] at hF hN ⊢
    dsimp only [ext, Option.getD] at hF
    replace hbx := hbx.below hb
    refine tlStoreV (Δ := [(2, Ty.ex (.pointer (some ⟨gx, 0, none⟩)))]) hF rfl rfl rfl rfl (hF.getEx (s := 21) rfl) hbx (sumSz _) (by show _ = some (u8s _).size; rw [Sm.size]; exact sizeS) (u8s_one _) (hF.keep [2]) rfl ?_
    intro w4 hF hbx hkx
    replace hB := below_own hB hkx (by intro y hy; simp only [List.mem_singleton] at hy; omega)
    refine' tlOp hF rfl rfl rfl ?_ ?_
    rotate_left
    · exact cAssign rfl rfl
    intro a w5 hF hb
    have hBs := hB.size
    replace hB := hB.trans (hb.mono hB.size)
    try (refine wpList_nil ?_)
    replace hbx := hbx.below hb
    refine' tlOp hF rfl rfl rfl ?_ ?_
    rotate_left
    · exact cAssign rfl rfl
    intro a w6 hF hb
    have hBs := hB.size
    replace hB := hB.trans (hb.mono hB.size)
    try (refine wpList_nil ?_)
    repeat with_reducible first | refine nThen ?_ | refine wp_ret ?_ | refine rThen ?_
    replace hbx := hbx.below hb
    refine retCell3 hF rfl rfl rfl rfl hbx Tryz.underlying28 rfl (by show _ = some (u8s _).size; rw [Sm.size]; exact sizeS) ?_
    exact ⟨_, rfl, rfl, hB⟩
  have hok : c.ok = true := by
    unfold Cl.ok
    rw [decide_eq_true hk]
    rcases hn with h | h <;> rw [h] <;> rfl
  have hsum : c.sum = c.key := by unfold Cl.sum; rw [hok]; rfl
  have hplus : c.plus = decide (c.n = 1) := by unfold Cl.plus; rw [hok]; rfl
  rw [hsum, hplus, hok]
  refine enter_ty 27 [Ty.ex (.agg c.a)] Tryz.func132 rfl (by kernel_rfl) ⟨hv, trivial⟩ fun a hF => ?_
  have hB := Below.refl w.heap.size w
  repeat with_reducible refine wp_seq ?_
  refine' reg_all hF ?_ mixed (by kernel_rfl) ?_
  rotate_left
  · repeat (first
        | exact Line.nil
        | (refine' Line.cons rfl (.new rfl rfl (run_alloc_i infoS) rfl) ?_; rotate_left)
        | ((refine' Line.cons rfl (.run rfl rfl ?_) ?_)
           any_goals (first | exact cAssign rfl rfl | exact cBoxCl rfl rfl)
           rotate_left))
  intro a w1 hF hb hN
  have hBs := hB.size
  replace hB := hB.trans (hb.mono hB.size)
  dsimp only [ext, Option.getD] at hF
  repeat with_reducible first | refine wp_seq ?_ | refine nThen ?_
  obtain ⟨z, ⟨gx, rfl, hgx, hbx⟩, hF⟩ := hF.open (s := 2) rfl
  refine wp_mono (Q := fun e a w2 => e = .normal ∧ Fr 27 [(1, Ty.at_ 69 c.enc), (2, Ty.ex (.pointer (some ⟨gx, 0, none⟩))), (20, Ty.ex (.bool false))] a w2 ∧ Below w.heap.size w w2 ∧ Blk w2 gx 28 (Value.agg (u8s (List.replicate 32 0))).cells) ?_ ?_
  · rcases hn with h1 | h1
    · have e1 : (!decide (c.n = 1)) = false := by rw [decide_eq_true h1]; rfl
      refine' reg_all hF ?_ mixed (by kernel_rfl) ?_
      rotate_left
      · repeat (first | exact Line.nil | (refine' Line.cons rfl (.no rfl rfl rfl rfl rfl rfl) ?_; rotate_left) | ((first | refine' Line.cons rfl (.run rfl rfl ?_) ?_ | refine' Line.cons rfl (.yes rfl rfl rfl rfl ?_) ?_); (any_goals (first | exact cMove rfl rfl | exact cFldN34 rfl (.t rfl) | exact cLoadN rfl (.t rfl) | exact OpOk.b (cNeq rfl rfl rfl) e1 | exact cFldC34 rfl (.t rfl) | exact cFldK34 rfl (.t rfl) | exact cLoadSum rfl (.t rfl) Tryz.underlying28 sizeS | exact cCall1 rfl rfl hC | exact OpOk.b (c := false) (cNeqAgg rfl rfl rfl guardS (fun w => neqS _ _ w)) (by rw [decide_eq_true hk]; rfl) | exact cPickF rfl rfl rfl)); rotate_left))
      intro a w2 hF hb hN
      have hBs := hB.size
      replace hB := hB.trans (hb.mono hB.size)
      dsimp only [ext, Option.getD] at hF
      exact ⟨rfl, hF.keep [1, 2, 20], hB, hbx.below hb⟩
    · have e1 : (!decide (c.n = 1)) = true := by rw [h1]; rfl
      have e2 : (!decide (c.n = -1)) = false := by rw [h1]; rfl
      refine' reg_all hF ?_ mixed (by kernel_rfl) ?_
      rotate_left
      · repeat (first | exact Line.nil | ((first | refine' Line.cons rfl (.run rfl rfl ?_) ?_ | refine' Line.cons rfl (.yes rfl rfl rfl rfl ?_) ?_); (any_goals (first | exact cMove rfl rfl | exact cFldN34 rfl (.t rfl) | exact cLoadN rfl (.t rfl) | exact OpOk.b (cNeq rfl rfl rfl) e1 | exact OpOk.b (cNeq rfl rfl rfl) e2 | exact cFldC34 rfl (.t rfl) | exact cFldK34 rfl (.t rfl) | exact cLoadSum rfl (.t rfl) Tryz.underlying28 sizeS | exact cCall1 rfl rfl hC | exact OpOk.b (c := false) (cNeqAgg rfl rfl rfl guardS (fun w => neqS _ _ w)) (by rw [decide_eq_true hk]; rfl) | exact cPickT rfl rfl rfl | exact cPickF rfl rfl rfl)); rotate_left))
      intro a w2 hF hb hN
      have hBs := hB.size
      replace hB := hB.trans (hb.mono hB.size)
      dsimp only [ext, Option.getD] at hF
      exact ⟨rfl, hF.keep [1, 2, 20], hB, hbx.below hb⟩
  clear hF hB hbx
  rintro e a w2 ⟨rfl, hF, hB, hbx⟩
  repeat with_reducible refine nThen ?_
  refine cond_f hF rfl ?_
  repeat with_reducible first | refine wp_seq ?_ | refine nThen ?_ | refine wp_skip ?_
  refine' region_w (v := .agg (u8s c.key.l)) 6 5 mixed (by kernel_rfl) hF rfl hbx (sumSz _) (u8s_one _) rfl ?_ ?_
  rotate_left
  · simp only [List.take_succ_cons, List.take_zero]
    repeat (first
      | exact LineW.nil
      | (refine' LineW.store rfl rfl rfl rfl rfl rfl ((by show _ = some (u8s _).size; rw [Sm.size]; exact sizeS)) ?_; rotate_left)
      | ((first | refine' LineW.cons rfl rfl (.no rfl rfl rfl rfl rfl rfl) (.no rfl rfl rfl rfl rfl rfl) rfl ?_ | refine' LineW.cons rfl rfl (.run rfl rfl ?_) (.run rfl rfl ?_) ?_ ?_ | refine' LineW.cons rfl rfl (.yes rfl rfl rfl rfl ?_) (.yes rfl rfl rfl rfl ?_) ?_ ?_)
         any_goals (first | exact cFldN34 rfl (.t rfl) | exact cLoadN rfl (.t rfl) | exact cFldK34 rfl (.t rfl) | exact cLoadSum rfl (.t rfl) Tryz.underlying28 sizeS | exact cEql rfl rfl rfl | exact rfl)
         rotate_left))
  intro a w4 hF hkx hbx
  replace hB := below_own hB hkx (by intro y hy; simp only [List.mem_singleton] at hy; omega)
  simp only [List.take_succ_cons, List.take_zero, List.drop_succ_cons, List.drop_zero] at hF ⊢
  dsimp only [extW] at hF
  refine' tlOp hF rfl rfl rfl ?_ ?_
  rotate_left
  · exact cAssign rfl rfl
  intro a w5 hF hb
  have hBs := hB.size
  replace hB := hB.trans (hb.mono hB.size)
  try (refine wpList_nil ?_)
  replace hbx := hbx.below hb
  refine' tlOp hF rfl rfl rfl ?_ ?_
  rotate_left
  · exact cAssign rfl rfl
  intro a w6 hF hb
  have hBs := hB.size
  replace hB := hB.trans (hb.mono hB.size)
  try (refine wpList_nil ?_)
  repeat with_reducible first | refine nThen ?_ | refine wp_ret ?_
  replace hbx := hbx.below hb
  refine retCell3 hF rfl rfl rfl rfl hbx Tryz.underlying28 rfl (by show _ = some (u8s _).size; rw [Sm.size]; exact sizeS) ?_
  exact ⟨_, rfl, rfl, hB⟩
end Go.Proofs.YtmefpnklgfhggaaGreatDoor

/- Layer 10: the walks of small helpers: rows copied, rows compared. -/
namespace Go.Proofs.YtmefpnklgfhggaaGreatDoor
open Go.RowKit

end Go.Proofs.YtmefpnklgfhggaaGreatDoor

/- Rows of bytes compared: plainly. -/
namespace Go.Proofs.YtmefpnklgfhggaaGreatDoor

def cmpL : List Nat → List Nat → Int
  | [], [] => 0
  | [], _ :: _ => -1
  | _ :: _, [] => 1
  | a :: x, b :: y => if a < b then -1 else if b < a then 1 else cmpL x y
theorem cmpL_swap : ∀ x y : List Nat, cmpL y x = - cmpL x y
  | [], [] => rfl
  | [], _ :: _ => rfl
  | _ :: _, [] => rfl
  | a :: x, b :: y => by
    have ih := cmpL_swap x y
    unfold cmpL
    by_cases h1 : a < b
    · rw [if_neg (by omega), if_pos h1, if_pos h1]; rfl
    · by_cases h2 : b < a
      · rw [if_pos h2, if_neg h1, if_pos h2]
      · rw [if_neg h2, if_neg h1, if_neg h1, if_neg h2]; exact ih
theorem cmpL_eq : ∀ x y : List Nat, cmpL x y = 0 ↔ x = y
  | [], [] => by simp [cmpL]
  | [], _ :: _ => by simp [cmpL]
  | _ :: _, [] => by simp [cmpL]
  | a :: x, b :: y => by
    have ih := cmpL_eq x y
    unfold cmpL
    by_cases h1 : a < b
    · rw [if_pos h1]; simp; omega
    · by_cases h2 : b < a
      · rw [if_neg h1, if_pos h2]; simp; omega
      · rw [if_neg h1, if_neg h2, ih]
        have : a = b := by omega
        simp [this]
theorem cmpL_trans : ∀ x y z : List Nat, cmpL x y ≤ 0 → cmpL y z ≤ 0 → cmpL x z ≤ 0 ∧ (cmpL x y < 0 ∨ cmpL y z < 0 → cmpL x z < 0)
  | [], [], [] => by simp [cmpL]
  | [], [], _ :: _ => by simp [cmpL]
  | [], _ :: _, [] => by simp [cmpL]
  | [], _ :: _, _ :: _ => by simp [cmpL]
  | _ :: _, [], _ => by simp [cmpL]
  | _ :: _, _ :: _, [] => by intro _ h; simp [cmpL] at h
  | a :: x, b :: y, c :: z => by
    have ih := cmpL_trans x y z
    intro h1 h2
    unfold cmpL at h1 h2 ⊢
    by_cases ab : a < b
    · by_cases bc : c < b
      · rw [if_neg (by omega), if_pos bc] at h2; omega
      · rw [if_pos (show a < c by omega)]; exact ⟨by omega, fun _ => by omega⟩
    · by_cases ba : b < a
      · rw [if_neg ab, if_pos ba] at h1; omega
      · rw [if_neg ab, if_neg ba] at h1 ⊢
        have e : a = b := by omega
        subst e
        by_cases ac : a < c
        · rw [if_pos ac]; exact ⟨by omega, fun _ => by omega⟩
        · by_cases ca : c < a
          · rw [if_neg ac, if_pos ca] at h2; omega
          · rw [if_neg ac, if_neg ca] at h2
            rw [if_neg ac, if_neg ca]
            rw [if_neg ac, if_neg ca]
            exact ih h1 h2

end Go.Proofs.YtmefpnklgfhggaaGreatDoor

/- Sums compared by their bytes: plainly; the walks of bytes.Compare and Sum.Cmp. -/
namespace Go.Proofs.YtmefpnklgfhggaaGreatDoor
open Go.RowKit

theorem cmpL_bytes : ∀ (x y : List Nat), (∀ a ∈ x, a < 256) → (∀ a ∈ y, a < 256) → Lib.compareBytes (bytesU x) (bytesU y) = cmpL x y
  | [], [], _, _ => rfl
  | [], _ :: _, _, _ => rfl
  | _ :: _, [], _, _ => rfl
  | a :: x, b :: y, hx, hy => by
    have ih := cmpL_bytes x y (fun z hz => hx z (by simp [hz])) (fun z hz => hy z (by simp [hz]))
    have ha := u8_toNat (hx a (by simp))
    have hb := u8_toNat (hy b (by simp))
    have h1 : (UInt8.ofNat a < UInt8.ofNat b) ↔ a < b := by rw [UInt8.lt_iff_toNat_lt, ha, hb]
    have h2 : (UInt8.ofNat b < UInt8.ofNat a) ↔ b < a := by rw [UInt8.lt_iff_toNat_lt, ha, hb]
    show (if UInt8.ofNat a < UInt8.ofNat b then (-1 : Int) else if UInt8.ofNat b < UInt8.ofNat a then 1 else Lib.compareBytes (bytesU x) (bytesU y)) = _
    rw [ih]
    simp only [h1, h2, cmpL]

theorem run_bytesOf_rd {P : Program} (w : World) (A : Option Addr) (n cap : Nat) (l : List Nat) (hl : l.length = n) (hr : Rd w A (l.map bv)) (hA : A = none → n = 0) (hx : ∀ x ∈ l, x < 256) :
    (Extern.Bytes.bytesOf (.slice A n cap)).run P w = .ok ⟨(bytesU l).toArray⟩ w := by
  cases A with
  | none =>
    have : l = [] := List.eq_nil_of_length_eq_zero (by rw [hl]; exact hA rfl)
    subst this
    rfl
  | some a =>
    subst hl
    have h := Lib.run_loadBytesX (P := P) w (l.map Int.ofNat) a .empty (fun j x hj => by
      rw [List.getElem?_map] at hj
      obtain ⟨y, hy, rfl⟩ := Option.map_eq_some_iff.1 hj
      obtain ⟨ad, e, hc⟩ := hr j (bv y) (by rw [List.getElem?_map, hy]; rfl)
      injection e with e
      subst e
      exact hc)
    rw [List.length_map] at h
    have e : Lib.bytesOf (l.map Int.ofNat) = bytesU l := by
      unfold Lib.bytesOf bytesU
      rw [List.map_map]
      apply List.map_congr_left
      intro x _
      rfl
    rw [e] at h
    simp only [Extern.Bytes.bytesOf]
    rw [h]
    congr 1
    apply ByteArray.ext
    simp
set_option maxRecDepth 100000 in
theorem Compare_any (A B : Option Addr) (n m c d : Nat) (x y : List Nat) (w : World) (hx : x.length = n) (hy : y.length = m) (hr1 : Rd w A (x.map bv)) (hr2 : Rd w B (y.map bv)) (hA : A = none → n = 0) (hB : B = none → m = 0) (h1 : ∀ a ∈ x, a < 256) (h2 : ∀ a ∈ y, a < 256) :
    Calls Tryz.prog 95 #[.slice A n c, .slice B m d] w fun e w' => e = .returned (.int .i64 (cmpL x y)) ∧ w' = w := by
  have hrun : (Extern.BytealgCompare.compare #[.slice A n c, .slice B m d]).run Tryz.prog w = .ok (.int .i64 (cmpL x y)) w := by
    change Sem.run Tryz.prog (do pure (goInt (Extern.BytealgCompare.cmp (← Extern.Bytes.bytesOf (.slice A n c)) (← Extern.Bytes.bytesOf (.slice B m d))))) w = _
    rw [Sem.run_bind, run_bytesOf_rd w A n c x hx hr1 hA h1]
    simp only [Result.andThen_ok]
    rw [Sem.run_bind, run_bytesOf_rd w B m d y hy hr2 hB h2]
    simp only [Result.andThen_ok, Sem.run_pure]
    rw [Lib.cmp_eq, ← cmpL_bytes x y h1 h2]
    rfl
  have HR := Lib.hid hrun
  clear hrun
  go_enter Tryz.func95, Tryz.ntmps95
  go_wp2
  rw [run_callFunc_extern Tryz.func121 (by kernel_rfl) (by kernel_rfl) (by kernel_rfl) (e := Extern.BytealgCompare.compare) (by kernel_rfl), HR.out]
  simp only [Result.andThen]
  rw [Oper.upon_value]
  go_wp2
  go_ret
  exact ⟨rfl, rfl⟩
end Go.Proofs.YtmefpnklgfhggaaGreatDoor

/- The walk of tallymanref1.Cmp. -/
namespace Go.Proofs.YtmefpnklgfhggaaGreatDoor
open Go.RowKit

end Go.Proofs.YtmefpnklgfhggaaGreatDoor

/- Layer 10: the walks of Sum.Cmp, Equal, Good; of the document's own Same, Has, Good. -/
namespace Go.Proofs.YtmefpnklgfhggaaGreatDoor
open Go.RowKit

theorem compare_ty (x y : Sm) : Fn2 Tryz.prog 95 (Ty.rd 32 x.enc) (Ty.rd 32 y.enc) (Ty.ex (.int .i64 (cmpL x.l y.l))) :=
  ⟨fun args w => by kernel_rfl, fun w v u ⟨A, c, h1, h2, h3, h4⟩ ⟨B, d, k1, k2, k3, k4⟩ => by
    subst h1 k1
    exact Ret.of_eq ((Compare_any A B 32 32 c d x.l y.l w x.len y.len h4 k4 h3 k3 x.lt y.lt).mono fun _ _ ⟨a, b⟩ => ⟨a, b.symm⟩)⟩
set_option maxRecDepth 100000 in
theorem cmp_ty (x y : Sm) : Fn2 Tryz.prog 63 (Ty.ex (.agg (u8s x.l))) (Ty.ex (.agg (u8s y.l))) (Ty.ex (.int .i64 (cmpL x.l y.l))) := by
  refine ⟨fun args w => by kernel_rfl, fun w v u hv hu => ?_⟩
  refine enter_ty 8 [Ty.ex (.agg (u8s x.l)), Ty.ex (.agg (u8s y.l))] Tryz.func63 rfl (by kernel_rfl) ⟨hv, hu, trivial⟩ fun a hF => ?_
  have hB := Below.refl w.heap.size w
  repeat with_reducible refine wp_seq ?_
  refine' reg_all hF ?_ mixed (by kernel_rfl) ?_
  rotate_left
  · repeat (first | exact Line.nil | ((refine' Line.cons rfl (.run rfl rfl ?_) ?_); (any_goals (first | exact cBoxSum rfl rfl | exact cAssign rfl rfl)); rotate_left))
  intro a w1 hF hb hN
  replace hB := hB.trans (hb.mono hB.size)
  dsimp only [ext, Option.getD] at hF
  repeat with_reducible first | refine wp_seq ?_ | refine nThen ?_
  refine' reg_all hF ?_ mixed (by kernel_rfl) ?_
  rotate_left
  · repeat (first | exact Line.nil | ((refine' Line.cons rfl (.run rfl rfl ?_) ?_); (any_goals (first | exact cSliceArr rfl (.t rfl) Tryz.underlying28 sizeU (by simp [maxLen]) | exact cCallH2 rfl (.r rfl (reads_sl _ _ _)) (.r rfl (reads_sl _ _ _)) (compare_ty x y) | exact cAssign rfl rfl)); rotate_left))
  intro a w2 hF hb hN
  replace hB := hB.trans (hb.mono hB.size)
  dsimp only [ext, Option.getD] at hF
  repeat with_reducible first | refine nThen ?_ | refine wp_ret ?_
  refine ret1 hF rfl rfl fun z hz => ?_
  exact ⟨z, rfl, hz, hB⟩
/-- Rising, each less than the next one. -/
def goodL (L : List Sm) : Bool := ((List.range (L.length - 1)).all fun k => decide (cmpL (L.getD k default).l (L.getD (k + 1) default).l < 0)) && decide (L.length ≤ 512)
theorem goodL_bad {L : List Sm} {k : Nat} (hk : k + 1 < L.length) (h : ¬ cmpL (L.getD k default).l (L.getD (k + 1) default).l < 0) : goodL L = false := by
  unfold goodL
  rw [Bool.and_eq_false_iff]
  left
  rw [List.all_eq_false]
  exact ⟨k, by simp; omega, by simpa using h⟩
theorem goodL_all {L : List Sm} (h : ∀ k, k + 1 < L.length → cmpL (L.getD k default).l (L.getD (k + 1) default).l < 0) : goodL L = decide (L.length ≤ 512) := by
  unfold goodL
  have : ((List.range (L.length - 1)).all fun k => decide (cmpL (L.getD k default).l (L.getD (k + 1) default).l < 0)) = true := by
    rw [List.all_eq_true]
    intro k hk
    have := h k (by simp at hk; omega)
    simpa using this
  rw [this, Bool.true_and]

set_option maxRecDepth 100000 in
theorem good_ty (L : List Sm) (hL : L.length ≤ 1000000) : Fn1 Tryz.prog 36 (Ty.sums 28 L) (Ty.ex (.bool (goodL L))) := by
  refine ⟨fun args w => by kernel_rfl, fun w v hv => ?_⟩
  refine enter_ty 24 [Ty.ex v] Tryz.func36 rfl (by kernel_rfl) ⟨rfl, trivial⟩ fun a hF => ?_
  have hB := Below.refl w.heap.size w
  repeat with_reducible refine wp_seq ?_
  refine' reg_all hF ?_ mixed (by kernel_rfl) ?_
  rotate_left
  · repeat (first | exact Line.nil | ((refine' Line.cons rfl (.run rfl rfl ?_) ?_); (any_goals exact cAssign rfl rfl); rotate_left))
  intro a w1 hF hb hN
  replace hB := hB.trans (hb.mono hB.size)
  dsimp only [ext, Option.getD] at hF
  repeat with_reducible first | refine wp_seq ?_ | refine nThen ?_
  refine' reg_all hF ?_ mixed (by kernel_rfl) ?_
  rotate_left
  · repeat (first | exact Line.nil | ((refine' Line.cons rfl (.run rfl rfl ?_) ?_); (any_goals exact cAssign rfl rfl); rotate_left))
  intro a w2 hF hb hN
  replace hB := hB.trans (hb.mono hB.size)
  dsimp only [ext, Option.getD] at hF
  repeat with_reducible first | refine nThen ?_ | refine wp_block ?_
  refine loop_ty (fun m a wr => ∃ k : Nat, k + m = L.length + 1 ∧ 1 ≤ k ∧ Fr 24 [(0, Ty.ex v), (3, Ty.ex (.int .i64 (k : Int)))] a wr ∧ Below w.heap.size w wr ∧ ∀ j, j + 1 < k → j + 1 < L.length → cmpL (L.getD j default).l (L.getD (j + 1) default).l < 0) L.length ?_ ?_
  · exact ⟨1, by omega, Nat.le_refl _, hF.keep [0, 3], hB, fun j hj => by omega⟩
  clear hF hB
  rintro m a wr ⟨k, hk, hk1, hF, hB, hlo⟩
  repeat with_reducible refine wp_seq ?_
  refine' reg_all hF ?_ mixed (by kernel_rfl) ?_
  rotate_left
  · repeat (first | exact Line.nil | ((refine' Line.cons rfl (.run rfl rfl ?_) ?_); (any_goals (first | exact cLenH rfl (.l rfl ((Ty.sums 28 L).below hv hB)) (Ty.sl_isSl _ _ _) Tryz.underlying30 | exact cMove rfl rfl | exact cLss rfl rfl rfl)); rotate_left))
  intro a w4 hF hb hN
  replace hB := hB.trans (hb.mono hB.size)
  dsimp only [ext, Option.getD] at hF
  repeat with_reducible refine nThen ?_
  refine cond_ty hF rfl (fun hlt => ?_) (fun hge => ?_)
  · have hlt : k < L.length := by simpa using hlt
    repeat with_reducible first | refine wp_seq ?_ | refine nThen ?_ | refine wp_skip ?_ | refine wp_block ?_
    refine' reg_all hF ?_ mixed (by kernel_rfl) ?_
    rotate_left
    · repeat (first | exact Line.nil | ((refine' Line.cons rfl (.run rfl rfl ?_) ?_); (any_goals (first | exact cSub (r := ((k - 1 : Nat) : Int)) rfl rfl rfl (by omega) | exact cIndexSum (k := k - 1) rfl (.l rfl ((Ty.sums 28 L).below hv hB)) rfl Tryz.underlying30 sizeS (by omega) | exact cIndexSum (k := k) rfl (.l rfl ((Ty.sums 28 L).below hv hB)) rfl Tryz.underlying30 sizeS hlt | exact cLoadSum rfl (.t rfl) Tryz.underlying28 sizeS | exact cCall2 rfl rfl rfl (cmp_ty _ _) | exact cMove rfl rfl | exact cGeq rfl rfl rfl)); rotate_left))
    intro a w5 hF hb hN
    replace hB := hB.trans (hb.mono hB.size)
    dsimp only [ext, Option.getD] at hF
    repeat with_reducible refine nThen ?_
    refine cond_ty hF rfl (fun hbad => ?_) (fun hok => ?_)
    · have hbad : ¬ cmpL (L.getD (k - 1) default).l (L.getD (k - 1 + 1) default).l < 0 := by
        rw [show k - 1 + 1 = k by omega]; have := of_decide_eq_true hbad; omega
      repeat with_reducible refine wp_seq ?_
      refine' reg_all hF ?_ mixed (by kernel_rfl) ?_
      rotate_left
      · repeat (first | exact Line.nil | ((refine' Line.cons rfl (.run rfl rfl ?_) ?_); (any_goals exact cAssign rfl rfl); rotate_left))
      intro a w6 hF hb hN
      replace hB := hB.trans (hb.mono hB.size)
      dsimp only [ext, Option.getD] at hF
      repeat with_reducible first | refine nThen ?_ | refine wp_ret ?_ | refine rThen ?_ | refine rBlk ?_
      refine ret1 hF rfl rfl fun z hz => ?_
      exact ⟨z, rfl, by rw [goodL_bad (by omega) hbad]; exact hz, hB⟩
    · have hok : cmpL (L.getD (k - 1) default).l (L.getD k default).l < 0 := by have := of_decide_eq_false hok; omega
      repeat with_reducible first | refine nThen ?_ | refine nBlk ?_ | refine wp_skip ?_
      refine' reg_all hF ?_ mixed (by kernel_rfl) ?_
      rotate_left
      · repeat (first | exact Line.nil | ((refine' Line.cons rfl (.run rfl rfl ?_) ?_); (any_goals (first | exact cAdd (r := ((k + 1 : Nat) : Int)) rfl rfl rfl (by omega) | exact cMove rfl rfl | exact cAssign rfl rfl)); rotate_left))
      intro a w6 hF hb hN
      replace hB := hB.trans (hb.mono hB.size)
      dsimp only [ext, Option.getD] at hF
      repeat with_reducible refine nThen ?_
      refine ⟨m - 1, by omega, k + 1, by omega, by omega, hF.keep [0, 3], hB, fun j hj hj2 => ?_⟩
      by_cases hjk : j + 1 < k
      · exact hlo j hjk hj2
      · obtain rfl : j = k - 1 := by omega
        rw [show k - 1 + 1 = k by omega]; exact hok
  · have hge : ¬ k < L.length := by simpa using hge
    repeat with_reducible first | refine wp_seq ?_ | refine nThen ?_ | refine wp_exit ?_ | refine xThen ?_ | refine xHere ?_
    refine' reg_all hF ?_ mixed (by kernel_rfl) ?_
    rotate_left
    · repeat (first | exact Line.nil | ((refine' Line.cons rfl (.run rfl rfl ?_) ?_); (any_goals (first | exact cLenH rfl (.l rfl ((Ty.sums 28 L).below hv hB)) (Ty.sl_isSl _ _ _) Tryz.underlying30 | exact cMove rfl rfl | exact cAssign rfl rfl | exact cLeq rfl rfl rfl)); rotate_left))
    intro a w5 hF hb hN
    replace hB := hB.trans (hb.mono hB.size)
    dsimp only [ext, Option.getD] at hF
    repeat with_reducible first | refine nThen ?_ | refine wp_ret ?_
    refine ret1 hF rfl rfl fun z hz => ?_
    refine ⟨z, rfl, ?_, hB⟩
    rw [goodL_all fun j hj => hlo j (by omega) hj]
    have hz : z = .bool (decide ((L.length : Int) ≤ 512)) := hz
    rw [hz]
    show _ = _
    congr 2
    simp
    omega
end Go.Proofs.YtmefpnklgfhggaaGreatDoor

/- Layer 10: the walks of Equal, Same; of the document's own Same, Has. -/
namespace Go.Proofs.YtmefpnklgfhggaaGreatDoor
open Go.RowKit

theorem eq_of_get {L M : List Sm} (hl : L.length = M.length) (h : ∀ j, j < L.length → L.getD j default = M.getD j default) : L = M := by
  apply List.ext_getElem hl
  intro i h1 h2
  have := h i h1
  simpa [List.getD, List.getElem?_eq_getElem h1, List.getElem?_eq_getElem h2] using this

set_option maxRecDepth 100000 in
theorem equal_ty (L M : List Sm) (hL : L.length ≤ 1000000) : Fn2 Tryz.prog 48 (Ty.sums 28 L) (Ty.sums 28 M) (Ty.ex (.bool (decide (L = M)))) := by
  refine ⟨fun args w => by kernel_rfl, fun w v u hv hu => ?_⟩
  refine enter_ty 26 [Ty.ex v, Ty.ex u] Tryz.func48 rfl (by kernel_rfl) ⟨rfl, rfl, trivial⟩ fun a hF => ?_
  have hB := Below.refl w.heap.size w
  repeat with_reducible refine wp_seq ?_
  refine' reg_all hF ?_ mixed (by kernel_rfl) ?_
  rotate_left
  · repeat (first | exact Line.nil | ((refine' Line.cons rfl (.run rfl rfl ?_) ?_); (any_goals exact cAssign rfl rfl); rotate_left))
  intro a w1 hF hb hN
  replace hB := hB.trans (hb.mono hB.size)
  dsimp only [ext, Option.getD] at hF
  repeat with_reducible first | refine wp_seq ?_ | refine nThen ?_
  refine' reg_all hF ?_ mixed (by kernel_rfl) ?_
  rotate_left
  · repeat (first | exact Line.nil | ((refine' Line.cons rfl (.run rfl rfl ?_) ?_); (any_goals (first | exact cLenH rfl (.l rfl ((Ty.sums 28 L).below hv hB)) (Ty.sl_isSl _ _ _) Tryz.underlying30 | exact cLenH rfl (.l rfl ((Ty.sums 28 M).below hu hB)) (Ty.sl_isSl _ _ _) Tryz.underlying30 | exact cMove rfl rfl | exact cNeq rfl rfl rfl)); rotate_left))
  intro a w2 hF hb hN
  replace hB := hB.trans (hb.mono hB.size)
  dsimp only [ext, Option.getD] at hF
  repeat with_reducible refine nThen ?_
  refine cond_ty hF rfl (fun hne => ?_) (fun heq => ?_)
  · have hne : ¬ L.length = M.length := fun h => by rw [h] at hne; simp at hne
    repeat with_reducible refine wp_seq ?_
    refine' reg_all hF ?_ mixed (by kernel_rfl) ?_
    rotate_left
    · repeat (first | exact Line.nil | ((refine' Line.cons rfl (.run rfl rfl ?_) ?_); (any_goals exact cAssign rfl rfl); rotate_left))
    intro a w3 hF hb hN
    replace hB := hB.trans (hb.mono hB.size)
    dsimp only [ext, Option.getD] at hF
    repeat with_reducible first | refine nThen ?_ | refine wp_ret ?_ | refine rThen ?_
    refine ret1 hF rfl rfl fun z hz => ?_
    exact ⟨z, rfl, by rw [decide_eq_false (show ¬ L = M from fun h => hne (by rw [h]))]; exact hz, hB⟩
  have heq : L.length = M.length := by simp at heq; omega
  repeat with_reducible first | refine wp_seq ?_ | refine nThen ?_ | refine wp_skip ?_
  refine' reg_all hF ?_ mixed (by kernel_rfl) ?_
  rotate_left
  · repeat (first | exact Line.nil | ((refine' Line.cons rfl (.run rfl rfl ?_) ?_); (any_goals (first | exact cLenH rfl (.l rfl ((Ty.sums 28 L).below hv hB)) (Ty.sl_isSl _ _ _) Tryz.underlying30 | exact cMove rfl rfl)); rotate_left))
  intro a w3 hF hb hN
  replace hB := hB.trans (hb.mono hB.size)
  dsimp only [ext, Option.getD] at hF
  repeat with_reducible first | refine nThen ?_ | refine wp_block ?_
  refine loop_ty (fun m a wr => ∃ k : Nat, k + m = L.length ∧ Fr 26 [(0, Ty.ex v), (1, Ty.ex u), (12, Ty.ex (.int .i64 (L.length : Int))), (13, Ty.ex (.int .i64 (k : Int)))] a wr ∧ Below w.heap.size w wr ∧ ∀ j, j < k → L.getD j default = M.getD j default) L.length ?_ ?_
  · exact ⟨0, by omega, hF.keep [0, 1, 12, 13], hB, fun j hj => by omega⟩
  clear hF hB
  rintro m a wr ⟨k, hk, hF, hB, hlo⟩
  repeat with_reducible refine wp_seq ?_
  refine' reg_all hF ?_ mixed (by kernel_rfl) ?_
  rotate_left
  · repeat (first | exact Line.nil | ((refine' Line.cons rfl (.run rfl rfl ?_) ?_); (any_goals exact cLss rfl rfl rfl); rotate_left))
  intro a w4 hF hb hN
  replace hB := hB.trans (hb.mono hB.size)
  dsimp only [ext, Option.getD] at hF
  repeat with_reducible first | refine wp_seq ?_ | refine nThen ?_
  refine cond_ty hF rfl (fun hlt => ?_) (fun hge => ?_)
  · have hlt : k < L.length := by simpa using hlt
    repeat with_reducible first | refine wp_seq ?_ | refine nThen ?_ | refine wp_skip ?_ | refine wp_block ?_
    refine' reg_all hF ?_ mixed (by kernel_rfl) ?_
    rotate_left
    · repeat (first | exact Line.nil | ((refine' Line.cons rfl (.run rfl rfl ?_) ?_); (any_goals (first | exact cMove rfl rfl | exact cAssign rfl rfl)); rotate_left))
    intro a w5 hF hb hN
    replace hB := hB.trans (hb.mono hB.size)
    dsimp only [ext, Option.getD] at hF
    repeat with_reducible first | refine wp_seq ?_ | refine nThen ?_
    refine' reg_all hF ?_ mixed (by kernel_rfl) ?_
    rotate_left
    · repeat (first | exact Line.nil | ((refine' Line.cons rfl (.run rfl rfl ?_) ?_); (any_goals (first | exact cIndexSum (k := k) rfl (.l rfl ((Ty.sums 28 L).below hv hB)) rfl Tryz.underlying30 sizeS hlt | exact cIndexSum (k := k) rfl (.l rfl ((Ty.sums 28 M).below hu hB)) rfl Tryz.underlying30 sizeS (by omega) | exact cLoadSum rfl (.t rfl) Tryz.underlying28 sizeS | exact cNeqAgg rfl rfl rfl guardS (neqS _ _) | exact cMove rfl rfl)); rotate_left))
    intro a w6 hF hb hN
    replace hB := hB.trans (hb.mono hB.size)
    dsimp only [ext, Option.getD] at hF
    repeat with_reducible refine nThen ?_
    refine cond_ty hF rfl (fun hbad => ?_) (fun hok => ?_)
    · have hbad : ¬ L.getD k default = M.getD k default := by simpa using hbad
      repeat with_reducible refine wp_seq ?_
      refine' reg_all hF ?_ mixed (by kernel_rfl) ?_
      rotate_left
      · repeat (first | exact Line.nil | ((refine' Line.cons rfl (.run rfl rfl ?_) ?_); (any_goals exact cAssign rfl rfl); rotate_left))
      intro a w7 hF hb hN
      replace hB := hB.trans (hb.mono hB.size)
      dsimp only [ext, Option.getD] at hF
      repeat with_reducible first | refine nThen ?_ | refine wp_ret ?_ | refine rThen ?_ | refine rBlk ?_
      refine ret1 hF rfl rfl fun z hz => ?_
      exact ⟨z, rfl, by rw [decide_eq_false (show ¬ L = M from fun h => hbad (by rw [h]))]; exact hz, hB⟩
    · have hok : L.getD k default = M.getD k default := by simpa using hok
      repeat with_reducible first | refine nThen ?_ | refine nBlk ?_ | refine wp_skip ?_
      refine' reg_all hF ?_ mixed (by kernel_rfl) ?_
      rotate_left
      · repeat (first | exact Line.nil | ((refine' Line.cons rfl (.run rfl rfl ?_) ?_); (any_goals (first | exact cAdd (r := ((k + 1 : Nat) : Int)) rfl rfl rfl (by omega) | exact cMove rfl rfl)); rotate_left))
      intro a w7 hF hb hN
      replace hB := hB.trans (hb.mono hB.size)
      dsimp only [ext, Option.getD] at hF
      repeat with_reducible refine nThen ?_
      refine ⟨m - 1, by omega, k + 1, by omega, hF.keep [0, 1, 12, 13], hB, fun j hj => ?_⟩
      by_cases hjk : j < k
      · exact hlo j hjk
      · obtain rfl : j = k := by omega
        exact hok
  · have hge : ¬ k < L.length := by simpa using hge
    repeat with_reducible first | refine wp_seq ?_ | refine nThen ?_ | refine wp_exit ?_ | refine xThen ?_ | refine xHere ?_
    refine' reg_all hF ?_ mixed (by kernel_rfl) ?_
    rotate_left
    · repeat (first | exact Line.nil | ((refine' Line.cons rfl (.run rfl rfl ?_) ?_); (any_goals exact cAssign rfl rfl); rotate_left))
    intro a w5 hF hb hN
    replace hB := hB.trans (hb.mono hB.size)
    dsimp only [ext, Option.getD] at hF
    repeat with_reducible first | refine nThen ?_ | refine wp_ret ?_
    refine ret1 hF rfl rfl fun z hz => ?_
    exact ⟨z, rfl, by rw [decide_eq_true (eq_of_get heq fun j hj => hlo j (by omega))]; exact hz, hB⟩

theorem mem_get {L : List Sm} {x : Sm} : x ∈ L ↔ ∃ j, j < L.length ∧ L.getD j default = x := by
  constructor
  · intro h
    obtain ⟨j, hj, rfl⟩ := List.getElem_of_mem h
    exact ⟨j, hj, by simp [List.getD, List.getElem?_eq_getElem hj]⟩
  · rintro ⟨j, hj, rfl⟩
    simp only [List.getD, List.getElem?_eq_getElem hj, Option.getD_some]
    exact List.getElem_mem hj
/-- Alike: both may be, and are alike. -/
def sameL (L M : List Sm) : Bool := goodL L && goodL M && decide (L = M)
set_option maxRecDepth 100000 in
theorem same_ty (L M : List Sm) (hL : L.length ≤ 1000000) (hM : M.length ≤ 1000000) : Fn2 Tryz.prog 22 (Ty.sums 28 L) (Ty.sums 28 M) (Ty.ex (.bool (sameL L M))) := by
  refine ⟨fun args w => by kernel_rfl, fun w v u hv hu => ?_⟩
  unfold sameL
  have g1 := good_ty L hL
  have g2 := good_ty M hM
  have hE := equal_ty L M hL
  generalize goodL L = b1 at *
  generalize goodL M = b2 at *
  generalize decide (L = M) = b3 at *
  cases b1 <;> cases b2
  all_goals
    refine enter_ty 16 [Ty.sums 28 L, Ty.sums 28 M] Tryz.func22 rfl (by kernel_rfl) ⟨hv, hu, trivial⟩ fun a hF => ?_
    have hB := Below.refl w.heap.size w
    repeat with_reducible refine wp_seq ?_
    refine' reg_all hF ?_ mixed (by kernel_rfl) ?_
    rotate_left
    · repeat (first | exact Line.nil | ((refine' Line.cons rfl (.run rfl rfl ?_) ?_); (any_goals exact cAssign rfl rfl); rotate_left))
    intro a w1 hF hb hN
    replace hB := hB.trans (hb.mono hB.size)
    dsimp only [ext, Option.getD] at hF
    repeat with_reducible first | refine wp_seq ?_ | refine nThen ?_
    refine' reg_all hF ?_ mixed (by kernel_rfl) ?_
    rotate_left
    · repeat (first | exact Line.nil | (refine' Line.cons rfl (.no rfl rfl rfl rfl rfl rfl) ?_; rotate_left) | ((first | refine' Line.cons rfl (.run rfl rfl ?_) ?_ | refine' Line.cons rfl (.yes rfl rfl rfl rfl ?_) ?_); (any_goals (first | exact cCallH1 rfl (.t rfl) g1 | exact cCallH1 rfl (.t rfl) g2 | exact cCallH2 rfl (.t rfl) (.t rfl) hE | exact cMove rfl rfl | exact cAssign rfl rfl | exact cPickT rfl rfl rfl | exact cPickF rfl rfl rfl)); rotate_left))
    intro a w2 hF hb hN
    replace hB := hB.trans (hb.mono hB.size)
    dsimp only [ext, Option.getD] at hF
    repeat with_reducible first | refine nThen ?_ | refine wp_ret ?_
    refine ret1 hF rfl rfl fun z hz => ?_
    exact ⟨z, rfl, hz, hB⟩
end Go.Proofs.YtmefpnklgfhggaaGreatDoor

/- Layer 10: the walks of Clone, Grow, Concat. -/
namespace Go.Proofs.YtmefpnklgfhggaaGreatDoor
open Go.RowKit

set_option maxRecDepth 100000 in
theorem cloneS_ty (L : List Sm) (hL : L.length ≤ 1000000) : FnSeg1 Tryz.prog 67 (Ty.sums 28 L) 28 32 L.length (flat L) := by
  refine ⟨fun args w => by kernel_rfl, fun w v hv => ?_⟩
  have hv' := hv
  obtain ⟨A, c, rfl, hnc, hcm, hA, hr⟩ := hv'
  refine enter_ty 8 [Ty.ex (.slice A L.length c)] Tryz.func67 rfl (by kernel_rfl) ⟨rfl, trivial⟩ fun a hF => ?_
  have hB := Below.refl w.heap.size w
  repeat with_reducible refine wp_seq ?_
  refine' reg_all hF ?_ mixed (by kernel_rfl) ?_
  rotate_left
  · repeat (first | exact Line.nil | ((refine' Line.cons rfl (.run rfl rfl ?_) ?_); (any_goals exact cAssign rfl rfl); rotate_left))
  intro a w1 hF hb hN
  have hBs := hB.size
  replace hB := hB.trans (hb.mono hB.size)
  dsimp only [ext, Option.getD] at hF
  repeat with_reducible first | refine wp_seq ?_ | refine nThen ?_
  refine' reg_all hF ?_ mixed (by kernel_rfl) ?_
  rotate_left
  · repeat (first | exact Line.nil | ((refine' Line.cons rfl (.run rfl rfl ?_) ?_); (any_goals (first | exact cEqlNil rfl rfl Tryz.underlying29 | exact cMove rfl rfl)); rotate_left))
  intro a w2 hF hb hN
  have hBs := hB.size
  replace hB := hB.trans (hb.mono hB.size)
  dsimp only [ext, Option.getD] at hF
  repeat with_reducible refine nThen ?_
  refine cond_ty hF rfl (fun h0 => ?_) (fun h1 => ?_)
  · have h0 : A = none := by cases A <;> simp at h0 ⊢
    have hl : L = [] := List.eq_nil_of_length_eq_zero (hA h0).1
    subst hl
    repeat with_reducible refine wp_seq ?_
    refine' reg_all hF ?_ mixed (by kernel_rfl) ?_
    rotate_left
    · repeat (first | exact Line.nil | ((refine' Line.cons rfl (.run rfl rfl ?_) ?_); (any_goals exact cAssign rfl rfl); rotate_left))
    intro a w3 hF hb hN
    have hBs := hB.size
    replace hB := hB.trans (hb.mono hB.size)
    dsimp only [ext, Option.getD] at hF
    repeat with_reducible first | refine nThen ?_ | refine wp_ret ?_ | refine rThen ?_
    refine ret1 hF rfl rfl fun z hz => ?_
    have hz : z = .slice none 0 0 := hz
    subst hz
    exact ⟨_, rfl, ⟨[], Seg.nil _ _ _, by simp⟩, hB⟩
  · repeat with_reducible first | refine wp_seq ?_ | refine nThen ?_ | refine wp_skip ?_
    refine' region_ty 2 mixed (by kernel_rfl) hF ?_ ?_
    rotate_left
    · simp only [List.take_succ_cons, List.take_zero]
      repeat (first | exact Line.nil | ((refine' Line.cons rfl (.run rfl rfl ?_) ?_); (any_goals (first | exact cBuild0 rfl Tryz.underlying29 infoS | exact cMove rfl rfl)); rotate_left))
    intro a w3 hF hb hN
    have hBs := hB.size
    replace hB := hB.trans (hb.mono hB.size)
    simp only [List.take_succ_cons, List.take_zero, List.drop_succ_cons, List.drop_zero] at hF hN ⊢
    dsimp only [ext, Option.getD] at hF
    obtain ⟨u, ⟨S, hseg, hS⟩, hF⟩ := hF.open (s := 5) rfl
    refine tlAppend (Δ := []) hF rfl rfl rfl rfl Tryz.underlying29 infoS zero32_size rfl hseg (.l (v := .slice A L.length c) rfl ((Ty.sums 28 L).below hv hB)) sl_news (flat_len _) flat_one' (by simp [maxLen]; omega) (by simp; omega) hF.nil rfl ?_
    intro a w4 u' S' hF hseg' hk2 hS'
    have hbS : ∀ y ∈ S', w.heap.size ≤ y := own_next hB (fun y hy => Nat.le_trans hBs (hS y hy)) hS'
    replace hB := below_own hB hk2 (fun y hy => Nat.le_trans hBs (hS y hy))
    refine' tlOp hF rfl rfl rfl ?_ ?_
    rotate_left
    · exact cAssign rfl rfl
    intro a w5 hF hb
    have hBs := hB.size
    replace hB := hB.trans (hb.mono hB.size)
    try (refine wpList_nil ?_)
    repeat with_reducible first | refine nThen ?_ | refine wp_ret ?_
    refine ret1 hF rfl rfl fun z hz => ?_
    have hz : z = u' := hz
    subst hz
    rw [Nat.zero_add, List.nil_append] at hseg'
    exact ⟨_, rfl, ⟨S', hseg'.below hb, hbS⟩, hB⟩
set_option maxRecDepth 100000 in
theorem cloneL_ty (L : List Sm) (hL : L.length ≤ 1000000) : FnSeg1 Tryz.prog 37 (Ty.sums 28 L) 28 32 L.length (flat L) := by
  refine ⟨fun args w => by kernel_rfl, fun w v hv => ?_⟩
  have hv' := hv
  obtain ⟨A, c, rfl, hnc, hcm, hA, hr⟩ := hv'
  refine enter_ty 8 [Ty.ex (.slice A L.length c)] Tryz.func37 rfl (by kernel_rfl) ⟨rfl, trivial⟩ fun a hF => ?_
  have hB := Below.refl w.heap.size w
  repeat with_reducible first | refine wp_seq ?_ | refine nThen ?_ | refine wp_skip ?_ | refine wp_ret ?_ | refine rThen ?_
  refine' reg_all hF ?_ mixed (by kernel_rfl) ?_
  rotate_left
  · repeat (first
        | exact Line.nil
        | ((refine' Line.cons rfl (.run rfl rfl ?_) ?_)
           any_goals (first | exact cMove rfl rfl | exact cAssign rfl rfl)
           rotate_left))
  intro a w1 hF hb hN
  have hBs := hB.size
  replace hB := hB.trans (hb.mono hB.size)
  dsimp only [ext, Option.getD] at hF
  repeat with_reducible first | refine wp_seq ?_ | refine nThen ?_ | refine wp_skip ?_ | refine wp_ret ?_ | refine rThen ?_
  refine' reg_all hF ?_ mixed (by kernel_rfl) ?_
  rotate_left
  · repeat (first
        | exact Line.nil
        | ((refine' Line.cons rfl (.run rfl rfl ?_) ?_)
           any_goals (first | exact cEqlNil rfl rfl Tryz.underlying30 | exact cMove rfl rfl | exact cAssign rfl rfl)
           rotate_left))
  intro a w2 hF hb hN
  have hBs := hB.size
  replace hB := hB.trans (hb.mono hB.size)
  dsimp only [ext, Option.getD] at hF
  repeat with_reducible first | refine wp_seq ?_ | refine nThen ?_ | refine wp_skip ?_ | refine wp_ret ?_ | refine rThen ?_
  refine cond_ty hF rfl (fun h0 => ?_) (fun h1 => ?_)
  · have h0 : A = none := by cases A <;> simp at h0 ⊢
    have hl : L = [] := List.eq_nil_of_length_eq_zero (hA h0).1
    subst hl
    repeat with_reducible first | refine wp_seq ?_ | refine nThen ?_ | refine wp_skip ?_ | refine wp_ret ?_ | refine rThen ?_
    refine' reg_all hF ?_ mixed (by kernel_rfl) ?_
    rotate_left
    · repeat (first
          | exact Line.nil
          | ((refine' Line.cons rfl (.run rfl rfl ?_) ?_)
             any_goals (first | exact cMove rfl rfl | exact cAssign rfl rfl)
             rotate_left))
    intro a w3 hF hb hN
    have hBs := hB.size
    replace hB := hB.trans (hb.mono hB.size)
    dsimp only [ext, Option.getD] at hF
    repeat with_reducible first | refine wp_seq ?_ | refine nThen ?_ | refine wp_skip ?_ | refine wp_ret ?_ | refine rThen ?_
    refine ret1 hF rfl rfl fun z hz => ?_
    have hz : z = .slice none 0 0 := hz
    subst hz
    exact ⟨_, rfl, ⟨[], Seg.nil _ _ _, by simp⟩, hB⟩
  · repeat with_reducible first | refine wp_seq ?_ | refine nThen ?_ | refine wp_skip ?_ | refine wp_ret ?_ | refine rThen ?_
    refine' region_ty 2 mixed (by kernel_rfl) hF ?_ ?_
    rotate_left
    · simp only [List.take_succ_cons, List.take_zero]
      repeat (first
          | exact Line.nil
          | ((refine' Line.cons rfl (.run rfl rfl ?_) ?_)
             any_goals (first | exact cBuild0 rfl Tryz.underlying30 infoS | exact cMove rfl rfl | exact cAssign rfl rfl)
             rotate_left))
    intro a w3 hF hb hN
    have hBs := hB.size
    replace hB := hB.trans (hb.mono hB.size)
    simp only [List.take_succ_cons, List.take_zero, List.drop_succ_cons, List.drop_zero] at hF hN ⊢
    dsimp only [ext, Option.getD] at hF
    obtain ⟨u, ⟨S, hseg, hS⟩, hF⟩ := hF.open (s := 5) rfl
    refine tlAppend (Δ := []) hF rfl rfl rfl rfl Tryz.underlying30 infoS zero32_size rfl hseg (.l (v := .slice A L.length c) rfl ((Ty.sums 28 L).below hv hB)) sl_news (flat_len _) flat_one' (by simp [maxLen]; omega) (by simp; omega) hF.nil rfl ?_
    intro a w4 u' S' hF hseg' hk2 hS'
    have hbS : ∀ y ∈ S', w.heap.size ≤ y := own_next hB (fun y hy => Nat.le_trans hBs (hS y hy)) hS'
    replace hB := below_own hB hk2 (fun y hy => Nat.le_trans hBs (hS y hy))
    refine' tlOp hF rfl rfl rfl ?_ ?_
    rotate_left
    · first | exact cMove rfl rfl | exact cAssign rfl rfl
    intro a w5 hF hb
    have hBs := hB.size
    replace hB := hB.trans (hb.mono hB.size)
    try (refine wpList_nil ?_)
    repeat with_reducible first | refine wp_seq ?_ | refine nThen ?_ | refine wp_skip ?_ | refine wp_ret ?_ | refine rThen ?_
    refine ret1 hF rfl rfl fun z hz => ?_
    have hz : z = u' := hz
    subst hz
    rw [Nat.zero_add, List.nil_append] at hseg'
    exact ⟨_, rfl, ⟨S', hseg'.below hb, hbS⟩, hB⟩

theorem zeroS_one : ∀ u ∈ (Value.agg (u8s (List.replicate 32 0))).cells.toList, u.oneCell' = true := by
  intro u hu
  have h : u ∈ (u8s (List.replicate 32 0)).toList := hu
  rw [u8s_list] at h
  obtain ⟨b, _, rfl⟩ := List.mem_map.1 h
  rfl
set_option maxRecDepth 100000 in
/-- Grow of nothing: a row of no element, with room. -/
theorem grow_ty (k : Nat) (hk : k ≤ 1000000) : FnSeg2 Tryz.prog 92 (Ty.ex (.slice none 0 0)) (Ty.ex (.int .i64 (k : Int))) 28 32 0 [] := by
  refine ⟨fun args w => by kernel_rfl, fun w v u hv hu => ?_⟩
  refine enter_ty 27 [Ty.ex (.slice none 0 0), Ty.ex (.int .i64 (k : Int))] Tryz.func92 rfl (by kernel_rfl) ⟨hv, hu, trivial⟩ fun a hF => ?_
  have hB := Below.refl w.heap.size w
  repeat with_reducible first | refine wp_seq ?_ | refine nThen ?_ | refine wp_skip ?_ | refine wp_ret ?_
  refine' reg_all hF ?_ mixed (by kernel_rfl) ?_
  rotate_left
  · repeat (first
        | exact Line.nil
        | ((refine' Line.cons rfl (.run rfl rfl ?_) ?_)
           any_goals (first | exact cMove rfl rfl | exact cAssign rfl rfl | exact cLss rfl rfl rfl | exact cGtr rfl rfl rfl)
           rotate_left))
  intro a w1 hF hb hN
  have hBs := hB.size
  replace hB := hB.trans (hb.mono hB.size)
  dsimp only [ext, Option.getD] at hF
  repeat with_reducible first | refine wp_seq ?_ | refine nThen ?_ | refine wp_skip ?_ | refine wp_ret ?_
  refine' reg_all hF ?_ mixed (by kernel_rfl) ?_
  rotate_left
  · repeat (first
        | exact Line.nil
        | ((refine' Line.cons rfl (.run rfl rfl ?_) ?_)
           any_goals (first | exact cMove rfl rfl | exact cAssign rfl rfl | exact cLss rfl rfl rfl | exact cGtr rfl rfl rfl)
           rotate_left))
  intro a w2 hF hb hN
  have hBs := hB.size
  replace hB := hB.trans (hb.mono hB.size)
  dsimp only [ext, Option.getD] at hF
  repeat with_reducible first | refine wp_seq ?_ | refine nThen ?_ | refine wp_skip ?_ | refine wp_ret ?_
  refine cond_ty hF rfl (fun h0 => ?_) (fun h1 => ?_)
  · have := of_decide_eq_true h0; omega
  repeat with_reducible first | refine wp_seq ?_ | refine nThen ?_ | refine wp_skip ?_ | refine wp_ret ?_
  refine' reg_all hF ?_ mixed (by kernel_rfl) ?_
  rotate_left
  · repeat (first
        | exact Line.nil
        | ((refine' Line.cons rfl (.run rfl rfl ?_) ?_)
           any_goals (first | exact cLenEx rfl rfl Tryz.underlying30 | exact cCapNil rfl rfl Tryz.underlying30 | exact cSub (r := 0) rfl rfl rfl (by omega) | exact cSub (r := (k : Int)) rfl rfl rfl (by omega) | exact cMove rfl rfl | exact cAssign rfl rfl | exact cLss rfl rfl rfl | exact cGtr rfl rfl rfl)
           rotate_left))
  intro a w3 hF hb hN
  have hBs := hB.size
  replace hB := hB.trans (hb.mono hB.size)
  dsimp only [ext, Option.getD] at hF
  repeat with_reducible first | refine wp_seq ?_ | refine nThen ?_ | refine wp_skip ?_ | refine wp_ret ?_
  refine' reg_all hF ?_ mixed (by kernel_rfl) ?_
  rotate_left
  · repeat (first
        | exact Line.nil
        | ((refine' Line.cons rfl (.run rfl rfl ?_) ?_)
           any_goals (first | exact cMove rfl rfl | exact cAssign rfl rfl | exact cLss rfl rfl rfl | exact cGtr rfl rfl rfl)
           rotate_left))
  intro a w4 hF hb hN
  have hBs := hB.size
  replace hB := hB.trans (hb.mono hB.size)
  dsimp only [ext, Option.getD] at hF
  repeat with_reducible first | refine wp_seq ?_ | refine nThen ?_ | refine wp_skip ?_ | refine wp_ret ?_
  have h4 := hB.size
  refine cond_ty hF rfl (fun h0 => ?_) (fun h1 => ?_)
  · have h0 := of_decide_eq_true h0
    repeat with_reducible first | refine wp_seq ?_ | refine nThen ?_ | refine wp_skip ?_ | refine wp_ret ?_
    refine' reg_all hF ?_ mixed (by kernel_rfl) ?_
    rotate_left
    · repeat (first
          | exact Line.nil
          | ((refine' Line.cons rfl (.run rfl rfl ?_) ?_)
             any_goals (first | exact cLenEx rfl rfl Tryz.underlying30 | exact cCapNil rfl rfl Tryz.underlying30 | exact cSliceNil rfl rfl rfl Tryz.underlying30 sizeS | exact cAppendMake rfl rfl rfl Tryz.underlying30 Tryz.underlying3 infoS zero32_size (by omega) (by simp [maxLen]; omega) (by omega) | exact cRoomHi rfl rfl rfl Tryz.underlying30 sizeS | exact cMove rfl rfl | exact cAssign rfl rfl | exact cLss rfl rfl rfl | exact cGtr rfl rfl rfl)
             rotate_left))
    intro a w5 hF hb hN
    have hBs := hB.size
    replace hB := hB.trans (hb.mono hB.size)
    dsimp only [ext, Option.getD] at hF
    repeat with_reducible first | refine wp_seq ?_ | refine nThen ?_ | refine wp_skip ?_ | refine wp_ret ?_
    refine' reg_all hF ?_ mixed (by kernel_rfl) ?_
    rotate_left
    · repeat (first
          | exact Line.nil
          | ((refine' Line.cons rfl (.run rfl rfl ?_) ?_)
             any_goals (first | exact cMove rfl rfl | exact cAssign rfl rfl | exact cLss rfl rfl rfl | exact cGtr rfl rfl rfl)
             rotate_left))
    intro a w6 hF hb hN
    have hBs := hB.size
    replace hB := hB.trans (hb.mono hB.size)
    dsimp only [ext, Option.getD] at hF
    repeat with_reducible first | refine wp_seq ?_ | refine nThen ?_ | refine wp_skip ?_ | refine wp_ret ?_
    refine ret1 hF rfl rfl fun z hz => ?_
    exact ⟨z, rfl, seg_old h4 _ _ hz, hB⟩
  · repeat with_reducible first | refine wp_seq ?_ | refine nThen ?_ | refine wp_skip ?_ | refine wp_ret ?_
    refine' reg_all hF ?_ mixed (by kernel_rfl) ?_
    rotate_left
    · repeat (first
          | exact Line.nil
          | ((refine' Line.cons rfl (.run rfl rfl ?_) ?_)
             any_goals (first | exact cMove rfl rfl | exact cAssign rfl rfl | exact cLss rfl rfl rfl | exact cGtr rfl rfl rfl)
             rotate_left))
    intro a w6 hF hb hN
    have hBs := hB.size
    replace hB := hB.trans (hb.mono hB.size)
    dsimp only [ext, Option.getD] at hF
    repeat with_reducible first | refine wp_seq ?_ | refine nThen ?_ | refine wp_skip ?_ | refine wp_ret ?_
    refine ret1 hF rfl rfl fun z hz => ?_
    have hz : z = .slice none 0 0 := hz
    subst hz
    exact ⟨_, rfl, ⟨[], Seg.nil _ _ _, by simp⟩, hB⟩

theorem sizeL1 : (Tryz.prog.info? 30).map (·.size) = some 1 := by kernel_rfl
theorem take_flat_len (Ls : List (List Sm)) {k : Nat} (h : k < Ls.length) : (Ls.take (k + 1)).flatten = (Ls.take k).flatten ++ Ls[k] := by
  rw [List.take_succ_eq_append_getElem h, List.flatten_append]
  simp
theorem take_flat_le (Ls : List (List Sm)) (k : Nat) : (Ls.take k).flatten.length ≤ Ls.flatten.length := by
  have h : Ls.flatten = (Ls.take k).flatten ++ (Ls.drop k).flatten := by rw [← List.flatten_append, List.take_append_drop]
  rw [h, List.length_append]
  omega
set_option maxRecDepth 100000 in
theorem concat_ty (Ls : List (List Sm)) (hL : Ls.flatten.length ≤ 1000000) (hn : Ls.length ≤ 1000) : FnSeg1 Tryz.prog 59 (Ty.slT 30 Ls.length (Ls.map (Ty.sums 28))) 28 32 Ls.flatten.length (flat Ls.flatten) := by
  refine ⟨fun args w => by kernel_rfl, fun w v hv => ?_⟩
  refine enter_ty 36 [Ty.ex v] Tryz.func59 rfl (by kernel_rfl) ⟨rfl, trivial⟩ fun a hF => ?_
  have hB := Below.refl w.heap.size w
  repeat with_reducible first | refine wp_seq ?_ | refine nThen ?_ | refine nBlk ?_ | refine wp_skip ?_ | refine wp_block ?_ | refine wp_exit ?_ | refine xThen ?_ | refine xHere ?_ | refine wp_ret ?_
  refine' reg_all hF ?_ mixed (by kernel_rfl) ?_
  rotate_left
  · repeat (first
        | exact Line.nil
        | ((refine' Line.cons rfl (.run rfl rfl ?_) ?_)
           any_goals (first | exact cMove rfl rfl | exact cAssign rfl rfl | exact cLss rfl rfl rfl)
           rotate_left))
  intro a w1 hF hb hN
  have hBs := hB.size
  replace hB := hB.trans (hb.mono hB.size)
  dsimp only [ext, Option.getD] at hF
  repeat with_reducible first | refine wp_seq ?_ | refine nThen ?_ | refine nBlk ?_ | refine wp_skip ?_ | refine wp_block ?_ | refine wp_exit ?_ | refine xThen ?_ | refine xHere ?_ | refine wp_ret ?_
  refine' reg_all hF ?_ mixed (by kernel_rfl) ?_
  rotate_left
  · repeat (first
        | exact Line.nil
        | ((refine' Line.cons rfl (.run rfl rfl ?_) ?_)
           any_goals (first | exact cMove rfl rfl | exact cAssign rfl rfl | exact cLss rfl rfl rfl)
           rotate_left))
  intro a w2 hF hb hN
  have hBs := hB.size
  replace hB := hB.trans (hb.mono hB.size)
  dsimp only [ext, Option.getD] at hF
  repeat with_reducible first | refine wp_seq ?_ | refine nThen ?_ | refine nBlk ?_ | refine wp_skip ?_ | refine wp_block ?_ | refine wp_exit ?_ | refine xThen ?_ | refine xHere ?_ | refine wp_ret ?_
  refine' reg_all hF ?_ mixed (by kernel_rfl) ?_
  rotate_left
  · repeat (first
        | exact Line.nil
        | ((refine' Line.cons rfl (.run rfl rfl ?_) ?_)
           any_goals (first | exact cLenH rfl (.l rfl ((Ty.slT 30 Ls.length (Ls.map (Ty.sums 28))).below hv hB)) (Ty.slT_isSl _ _ _) Tryz.underlying103 | exact cMove rfl rfl | exact cAssign rfl rfl | exact cLss rfl rfl rfl)
           rotate_left))
  intro a w3 hF hb hN
  have hBs := hB.size
  replace hB := hB.trans (hb.mono hB.size)
  dsimp only [ext, Option.getD] at hF
  repeat with_reducible first | refine wp_seq ?_ | refine nThen ?_ | refine nBlk ?_ | refine wp_skip ?_ | refine wp_block ?_ | refine wp_exit ?_ | refine xThen ?_ | refine xHere ?_ | refine wp_ret ?_
  refine loop_ty (fun m a wr => ∃ k : Nat, k + m = Ls.length ∧ Fr 36 [(0, Ty.ex v), (9, Ty.ex v), (10, Ty.ex (.int .i64 (Ls.length : Int))), (11, Ty.ex (.int .i64 (k : Int))), (3, Ty.ex (.int .i64 ((Ls.take k).flatten.length : Int)))] a wr ∧ Below w.heap.size w wr) Ls.length ?_ ?_
  · exact ⟨0, by omega, hF.keep [0, 9, 10, 11, 3], hB⟩
  clear hF hB
  rintro m a wr ⟨k, hk, hF, hB⟩
  repeat with_reducible first | refine wp_seq ?_ | refine nThen ?_ | refine nBlk ?_ | refine wp_skip ?_ | refine wp_block ?_ | refine wp_exit ?_ | refine xThen ?_ | refine xHere ?_ | refine wp_ret ?_
  refine' reg_all hF ?_ mixed (by kernel_rfl) ?_
  rotate_left
  · repeat (first
        | exact Line.nil
        | ((refine' Line.cons rfl (.run rfl rfl ?_) ?_)
           any_goals (first | exact cMove rfl rfl | exact cAssign rfl rfl | exact cLss rfl rfl rfl)
           rotate_left))
  intro a w4 hF hb hN
  have hBs := hB.size
  replace hB := hB.trans (hb.mono hB.size)
  dsimp only [ext, Option.getD] at hF
  repeat with_reducible first | refine wp_seq ?_ | refine nThen ?_ | refine nBlk ?_ | refine wp_skip ?_ | refine wp_block ?_ | refine wp_exit ?_ | refine xThen ?_ | refine xHere ?_ | refine wp_ret ?_
  refine cond_ty hF rfl (fun hlt => ?_) (fun hge => ?_)
  · have hlt : k < Ls.length := by simpa using hlt
    have hdrop : (Ls.map (Ty.sums 28)).drop k = Ty.sums 28 Ls[k] :: (Ls.map (Ty.sums 28)).drop (k + 1) := by
      rw [List.drop_eq_getElem_cons (by simpa using hlt)]
      simp
    have htk := take_flat_len Ls hlt
    have htl := take_flat_le Ls (k + 1)
    have htn : (Ls.take (k + 1)).flatten.length = (Ls.take k).flatten.length + Ls[k].length := by rw [htk, List.length_append]
    repeat with_reducible first | refine wp_seq ?_ | refine nThen ?_ | refine nBlk ?_ | refine wp_skip ?_ | refine wp_block ?_ | refine wp_exit ?_ | refine xThen ?_ | refine xHere ?_ | refine wp_ret ?_
    refine' reg_all hF ?_ mixed (by kernel_rfl) ?_
    rotate_left
    · repeat (first
          | exact Line.nil
          | ((refine' Line.cons rfl (.run rfl rfl ?_) ?_)
             any_goals (first | exact cIndexT (k := k) rfl (.l rfl ((Ty.slT 30 Ls.length (Ls.map (Ty.sums 28))).below hv hB)) rfl Tryz.underlying103 sizeL1 hlt (by simpa using hlt) | exact cLoadT rfl (.t (by rw [← hdrop]; rfl)) Tryz.underlying30 rfl | exact cMove rfl rfl | exact cAssign rfl rfl | exact cLss rfl rfl rfl)
             rotate_left))
    intro a w5 hF hb hN
    have hBs := hB.size
    replace hB := hB.trans (hb.mono hB.size)
    dsimp only [ext, Option.getD] at hF
    repeat with_reducible first | refine wp_seq ?_ | refine nThen ?_ | refine nBlk ?_ | refine wp_skip ?_ | refine wp_block ?_ | refine wp_exit ?_ | refine xThen ?_ | refine xHere ?_ | refine wp_ret ?_
    refine' reg_all hF ?_ mixed (by kernel_rfl) ?_
    rotate_left
    · repeat (first
          | exact Line.nil
          | ((refine' Line.cons rfl (.run rfl rfl ?_) ?_)
             any_goals (first | exact cLenH rfl (.t rfl) (Ty.sl_isSl _ _ _) Tryz.underlying30 | exact cAdd (r := ((Ls.take (k + 1)).flatten.length : Int)) rfl rfl rfl (by omega) | exact cMove rfl rfl | exact cAssign rfl rfl | exact cLss rfl rfl rfl)
             rotate_left))
    intro a w6 hF hb hN
    have hBs := hB.size
    replace hB := hB.trans (hb.mono hB.size)
    dsimp only [ext, Option.getD] at hF
    repeat with_reducible first | refine wp_seq ?_ | refine nThen ?_ | refine nBlk ?_ | refine wp_skip ?_ | refine wp_block ?_ | refine wp_exit ?_ | refine xThen ?_ | refine xHere ?_ | refine wp_ret ?_
    refine' reg_all hF ?_ mixed (by kernel_rfl) ?_
    rotate_left
    · repeat (first
          | exact Line.nil
          | ((refine' Line.cons rfl (.run rfl rfl ?_) ?_)
             any_goals (first | exact cMove rfl rfl | exact cAssign rfl rfl | exact cLss rfl rfl rfl)
             rotate_left))
    intro a w7 hF hb hN
    have hBs := hB.size
    replace hB := hB.trans (hb.mono hB.size)
    dsimp only [ext, Option.getD] at hF
    repeat with_reducible first | refine wp_seq ?_ | refine nThen ?_ | refine nBlk ?_ | refine wp_skip ?_ | refine wp_block ?_ | refine wp_exit ?_ | refine xThen ?_ | refine xHere ?_ | refine wp_ret ?_
    refine cond_ty hF rfl (fun h0 => ?_) (fun h1 => ?_)
    · have := of_decide_eq_true h0; omega
    repeat with_reducible first | refine wp_seq ?_ | refine nThen ?_ | refine nBlk ?_ | refine wp_skip ?_ | refine wp_block ?_ | refine wp_exit ?_ | refine xThen ?_ | refine xHere ?_ | refine wp_ret ?_
    refine' reg_all hF ?_ mixed (by kernel_rfl) ?_
    rotate_left
    · repeat (first
          | exact Line.nil
          | ((refine' Line.cons rfl (.run rfl rfl ?_) ?_)
             any_goals (first | exact cAdd (r := ((k + 1 : Nat) : Int)) rfl rfl rfl (by omega) | exact cMove rfl rfl | exact cAssign rfl rfl | exact cLss rfl rfl rfl)
             rotate_left))
    intro a w8 hF hb hN
    have hBs := hB.size
    replace hB := hB.trans (hb.mono hB.size)
    dsimp only [ext, Option.getD] at hF
    repeat with_reducible first | refine wp_seq ?_ | refine nThen ?_ | refine nBlk ?_ | refine wp_skip ?_ | refine wp_block ?_ | refine wp_exit ?_ | refine xThen ?_ | refine xHere ?_ | refine wp_ret ?_
    exact ⟨m - 1, by omega, k + 1, by omega, hF.keep [0, 9, 10, 11, 3], hB⟩
  have hge : ¬ k < Ls.length := by simpa using hge
  obtain rfl : k = Ls.length := by omega
  rw [List.take_length] at hF
  repeat with_reducible first | refine wp_seq ?_ | refine nThen ?_ | refine nBlk ?_ | refine wp_skip ?_ | refine wp_block ?_ | refine wp_exit ?_ | refine xThen ?_ | refine xHere ?_ | refine wp_ret ?_
  have hBs0 := hB.size
  refine' reg_all hF ?_ mixed (by kernel_rfl) ?_
  rotate_left
  · repeat (first
        | exact Line.nil
        | ((refine' Line.cons rfl (.run rfl rfl ?_) ?_)
           any_goals (first | exact cCallS2 rfl (.t rfl) (.t rfl) (grow_ty Ls.flatten.length hL) | exact cMove rfl rfl | exact cAssign rfl rfl | exact cLss rfl rfl rfl)
           rotate_left))
  intro a w5 hF hb hN
  have hBs := hB.size
  replace hB := hB.trans (hb.mono hB.size)
  dsimp only [ext, Option.getD] at hF
  repeat with_reducible first | refine wp_seq ?_ | refine nThen ?_ | refine nBlk ?_ | refine wp_skip ?_ | refine wp_block ?_ | refine wp_exit ?_ | refine xThen ?_ | refine xHere ?_ | refine wp_ret ?_
  refine' reg_all hF ?_ mixed (by kernel_rfl) ?_
  rotate_left
  · repeat (first
        | exact Line.nil
        | ((refine' Line.cons rfl (.run rfl rfl ?_) ?_)
           any_goals (first | exact cLenH rfl (.l rfl ((Ty.slT 30 Ls.length (Ls.map (Ty.sums 28))).below hv hB)) (Ty.slT_isSl _ _ _) Tryz.underlying103 | exact cMove rfl rfl | exact cAssign rfl rfl | exact cLss rfl rfl rfl)
           rotate_left))
  intro a w6 hF hb hN
  have hBs := hB.size
  replace hB := hB.trans (hb.mono hB.size)
  dsimp only [ext, Option.getD] at hF
  repeat with_reducible first | refine wp_seq ?_ | refine nThen ?_ | refine nBlk ?_ | refine wp_skip ?_ | refine wp_block ?_ | refine wp_exit ?_ | refine xThen ?_ | refine xHere ?_ | refine wp_ret ?_
  obtain ⟨u, ⟨S, hseg, hS⟩, hF⟩ := hF.open (s := 6) rfl
  refine loop_ty (fun m a wr => ∃ (k : Nat) (u : Value) (S : List Nat), k + m = Ls.length ∧ Fr 36 [(25, Ty.ex v), (26, Ty.ex (.int .i64 (Ls.length : Int))), (27, Ty.ex (.int .i64 (k : Int))), (6, Ty.ex u)] a wr ∧ Below w.heap.size w wr ∧ Seg wr 28 32 u (Ls.take k).flatten.length (flat (Ls.take k).flatten) S ∧ ∀ y ∈ S, w.heap.size ≤ y) Ls.length ?_ ?_
  · exact ⟨0, u, S, by omega, hF.keep [25, 26, 27, 6], hB, hseg, fun y hy => Nat.le_trans hBs0 (hS y hy)⟩
  clear hF hB hseg hS
  rintro m a wr ⟨k, u, S, hk, hF, hB, hseg, hS⟩
  repeat with_reducible first | refine wp_seq ?_ | refine nThen ?_ | refine nBlk ?_ | refine wp_skip ?_ | refine wp_block ?_ | refine wp_exit ?_ | refine xThen ?_ | refine xHere ?_ | refine wp_ret ?_
  refine' reg_all hF ?_ mixed (by kernel_rfl) ?_
  rotate_left
  · repeat (first
        | exact Line.nil
        | ((refine' Line.cons rfl (.run rfl rfl ?_) ?_)
           any_goals (first | exact cMove rfl rfl | exact cAssign rfl rfl | exact cLss rfl rfl rfl)
           rotate_left))
  intro a w7 hF hb hN
  have hBs := hB.size
  replace hB := hB.trans (hb.mono hB.size)
  dsimp only [ext, Option.getD] at hF
  repeat with_reducible first | refine wp_seq ?_ | refine nThen ?_ | refine nBlk ?_ | refine wp_skip ?_ | refine wp_block ?_ | refine wp_exit ?_ | refine xThen ?_ | refine xHere ?_ | refine wp_ret ?_
  replace hseg := hseg.below hb
  refine cond_ty hF rfl (fun hlt => ?_) (fun hge => ?_)
  · have hlt : k < Ls.length := by simpa using hlt
    have hdrop : (Ls.map (Ty.sums 28)).drop k = Ty.sums 28 Ls[k] :: (Ls.map (Ty.sums 28)).drop (k + 1) := by
      rw [List.drop_eq_getElem_cons (by simpa using hlt)]
      simp
    have htk := take_flat_len Ls hlt
    have htl := take_flat_le Ls (k + 1)
    have htn : (Ls.take (k + 1)).flatten.length = (Ls.take k).flatten.length + Ls[k].length := by rw [htk, List.length_append]
    repeat with_reducible first | refine wp_seq ?_ | refine nThen ?_ | refine nBlk ?_ | refine wp_skip ?_ | refine wp_block ?_ | refine wp_exit ?_ | refine xThen ?_ | refine xHere ?_ | refine wp_ret ?_
    refine' reg_all hF ?_ mixed (by kernel_rfl) ?_
    rotate_left
    · repeat (first
          | exact Line.nil
          | ((refine' Line.cons rfl (.run rfl rfl ?_) ?_)
             any_goals (first | exact cIndexT (k := k) rfl (.l rfl ((Ty.slT 30 Ls.length (Ls.map (Ty.sums 28))).below hv hB)) rfl Tryz.underlying103 sizeL1 hlt (by simpa using hlt) | exact cLoadT rfl (.t (by rw [← hdrop]; rfl)) Tryz.underlying30 rfl | exact cMove rfl rfl | exact cAssign rfl rfl | exact cLss rfl rfl rfl)
             rotate_left))
    intro a w8 hF hb hN
    have hBs := hB.size
    replace hB := hB.trans (hb.mono hB.size)
    dsimp only [ext, Option.getD] at hF
    repeat with_reducible first | refine wp_seq ?_ | refine nThen ?_ | refine nBlk ?_ | refine wp_skip ?_ | refine wp_block ?_ | refine wp_exit ?_ | refine xThen ?_ | refine xHere ?_ | refine wp_ret ?_
    replace hseg := hseg.below hb
    refine' region_ty 2 mixed (by kernel_rfl) hF ?_ ?_
    rotate_left
    · simp only [List.take_succ_cons, List.take_zero]
      repeat (first
          | exact Line.nil
          | ((refine' Line.cons rfl (.run rfl rfl ?_) ?_)
             any_goals (first | exact cMove rfl rfl | exact cAssign rfl rfl | exact cLss rfl rfl rfl)
             rotate_left))
    intro a w9 hF hb hN
    have hBs := hB.size
    replace hB := hB.trans (hb.mono hB.size)
    simp only [List.take_succ_cons, List.take_zero, List.drop_succ_cons, List.drop_zero] at hF hN ⊢
    dsimp only [ext, Option.getD] at hF
    replace hseg := hseg.below hb
    refine tlAppend (Δ := [(25, Ty.ex v), (26, Ty.ex (.int .i64 (Ls.length : Int))), (27, Ty.ex (.int .i64 (k : Int)))]) hF rfl rfl rfl rfl Tryz.underlying30 infoS zero32_size rfl hseg (.t rfl) sl_news (flat_len _) flat_one' (by unfold maxLen; omega) (by omega) (hF.keep [25, 26, 27]) rfl ?_
    intro a w10 u' S' hF hseg hk2 hS'
    replace hS' := own_next hB hS hS'
    replace hB := below_own hB hk2 hS
    refine' tlOp hF rfl rfl rfl ?_ ?_
    rotate_left
    · first | exact cMove rfl rfl | exact cAssign rfl rfl | exact cLss rfl rfl rfl
    intro a w11 hF hb
    have hBs := hB.size
    replace hB := hB.trans (hb.mono hB.size)
    try (refine wpList_nil ?_)
    repeat with_reducible first | refine wp_seq ?_ | refine nThen ?_ | refine nBlk ?_ | refine wp_skip ?_ | refine wp_block ?_ | refine wp_exit ?_ | refine xThen ?_ | refine xHere ?_ | refine wp_ret ?_
    replace hseg := hseg.below hb
    refine' reg_all hF ?_ mixed (by kernel_rfl) ?_
    rotate_left
    · repeat (first
          | exact Line.nil
          | ((refine' Line.cons rfl (.run rfl rfl ?_) ?_)
             any_goals (first | exact cAdd (r := ((k + 1 : Nat) : Int)) rfl rfl rfl (by omega) | exact cMove rfl rfl | exact cAssign rfl rfl | exact cLss rfl rfl rfl)
             rotate_left))
    intro a w12 hF hb hN
    have hBs := hB.size
    replace hB := hB.trans (hb.mono hB.size)
    dsimp only [ext, Option.getD] at hF
    repeat with_reducible first | refine wp_seq ?_ | refine nThen ?_ | refine nBlk ?_ | refine wp_skip ?_ | refine wp_block ?_ | refine wp_exit ?_ | refine xThen ?_ | refine xHere ?_ | refine wp_ret ?_
    rw [← flat_append, ← htk, ← htn] at hseg
    exact ⟨m - 1, by omega, k + 1, u', S', by omega, hF.keep [25, 26, 27, 6], hB, hseg.below hb, hS'⟩
  have hge : ¬ k < Ls.length := by simpa using hge
  obtain rfl : k = Ls.length := by omega
  rw [List.take_length] at hseg
  repeat with_reducible first | refine wp_seq ?_ | refine nThen ?_ | refine nBlk ?_ | refine wp_skip ?_ | refine wp_block ?_ | refine wp_exit ?_ | refine xThen ?_ | refine xHere ?_ | refine wp_ret ?_
  refine' reg_all hF ?_ mixed (by kernel_rfl) ?_
  rotate_left
  · repeat (first
        | exact Line.nil
        | ((refine' Line.cons rfl (.run rfl rfl ?_) ?_)
           any_goals (first | exact cMove rfl rfl | exact cAssign rfl rfl | exact cLss rfl rfl rfl)
           rotate_left))
  intro a w8 hF hb hN
  have hBs := hB.size
  replace hB := hB.trans (hb.mono hB.size)
  dsimp only [ext, Option.getD] at hF
  repeat with_reducible first | refine wp_seq ?_ | refine nThen ?_ | refine nBlk ?_ | refine wp_skip ?_ | refine wp_block ?_ | refine wp_exit ?_ | refine xThen ?_ | refine xHere ?_ | refine wp_ret ?_
  refine ret1 hF rfl rfl fun z hz => ?_
  have hz : z = u := hz
  subst hz
  exact ⟨z, rfl, ⟨S, hseg.below hb, hS⟩, hB⟩
end Go.Proofs.YtmefpnklgfhggaaGreatDoor

/- Layer 15 by types: rows of cells, tables; Clone; Good, New. -/
namespace Go.Proofs.YtmefpnklgfhggaaGreatDoor
open Go.RowKit

/-! ### Rows of cells -/
abbrev Ty.cls (e : TypeId) (L : List Cl) : Ty := Ty.sl e L.length (flatC L)
theorem cIndexCl {P : Program} {w0 : World} {Γ : Ctx} {o : Oper} {t e : TypeId} {x ix : Operand} {k : Nat} {kd : IntKind} {L : List Cl} (ho : o.op = .indexAddr t x ix) (hx : Has w0 Γ x (Ty.cls e L)) (hi : OpT Γ ix (Ty.ex (.int kd (k : Int)))) (hu : P.underlying t = some (.slice e)) (hz : (P.info? e).map (·.size) = some 65) (hk : k < L.length) : OpOk P w0 Γ o (Ty.at_ e (L.getD k default).enc) := by
  have h := cIndexS (P := P) ho hx hi hu hz hk (by rw [flatC_len]; omega)
  rw [flatC_at L hk] at h
  exact h.conv at_pre
theorem zero65_cells : (Value.agg Cl.zero.a).cells.size = 65 := Cl.zero.size
/-- make([]Cell, n) -/
theorem made_cells (n : Nat) : (madeCells (Value.agg Cl.zero.a).cells (n * 65)).toList = flatC (tzero n) := by
  apply List.ext_getElem?
  intro j
  have hz : (Value.agg Cl.zero.a).cells = Cl.zero.enc.toArray := rfl
  rw [hz]
  unfold madeCells
  by_cases hj : j < n * 65
  · have h1 : (flatC (tzero n))[j]? = (flatC ((tzero n).drop (j / 65)))[j % 65]? := by
      rw [← flatC_drop, List.getElem?_drop]
      congr 1
      omega
    have h2 : j / 65 < n := by omega
    have h3 : (tzero n).drop (j / 65) = Cl.zero :: tzero (n - j / 65 - 1) := by
      unfold tzero
      rw [List.drop_replicate, show n - j / 65 = (n - j / 65 - 1) + 1 by omega, List.replicate_succ]
      rfl
    have h4 : flatC (Cl.zero :: tzero (n - j / 65 - 1)) = Cl.zero.enc ++ flatC (tzero (n - j / 65 - 1)) := rfl
    have hl : Cl.zero.enc.length = 65 := Cl.enc_len _
    have hm : j % 65 < 65 := Nat.mod_lt _ (by omega)
    rw [h1, h3, h4, List.getElem?_append_left (by omega)]
    simp [hj, hl, hm]
  · rw [List.getElem?_eq_none (by simp; omega), List.getElem?_eq_none (by rw [flatC_len, tzero_len]; omega)]
theorem run_makeCells {P : Program} {t e : TypeId} (n : Nat) (hn : n ≤ 1000000) (ht : P.underlying t = some (.slice e)) (hi : (P.info? e).map (fun i => (i.zero, i.size, i.bytes)) = some (some (.agg Cl.zero.a), 65, 72)) (w : World) :
    (Instr.makeSlice t (.int .i64 (n : Int)) (.int .i64 (n : Int))).run P w = .ok (.slice (some ⟨w.heap.size, 0, none⟩) n n) (w.alloc (.cells (flatC (tzero n)).toArray e)) := by
  obtain ⟨i, h1, h2, h3, h4⟩ := info_parts hi
  have h := run_make (P := P) w t e i _ ht h1 h2 .i64 .i64 (n : Int) (n : Int) (by omega) (Int.le_refl _) (by rw [h4]; omega) (by omega)
  rw [Int.toNat_natCast, h3] at h
  rw [h]
  congr 3
  exact Array.toList_inj.1 (by rw [made_cells])
theorem cMakeCells {P : Program} {w0 : World} {Γ : Ctx} {o : Oper} {t e : TypeId} {x y : Operand} {n : Nat} (ho : o.op = .makeSlice t x y) (hx : OpT Γ x (Ty.ex (.int .i64 (n : Int)))) (hy : OpT Γ y (Ty.ex (.int .i64 (n : Int)))) (ht : P.underlying t = some (.slice e)) (hi : (P.info? e).map (fun i => (i.zero, i.size, i.bytes)) = some (some (.agg Cl.zero.a), 65, 72)) (hn : n ≤ 1000000) : OpOk P w0 Γ o (Ty.seg w0 e 65 (tzero n).length (flatC (tzero n))) :=
  .new fun a w hb hs => by
    rw [tzero_len]
    obtain ⟨u, h1, h2⟩ := hs x _ (by simp [ho, Op.operands]) hx
    obtain ⟨u', h3, h4⟩ := hs y _ (by simp [ho, Op.operands]) hy
    have h2 : u = .int .i64 (n : Int) := h2
    have h4 : u' = .int .i64 (n : Int) := h4
    have hl : (flatC (tzero n)).length = n * 65 := by rw [flatC_len, tzero_len]
    refine ⟨.slice (some ⟨w.heap.size, 0, none⟩) n n, w.alloc (.cells (flatC (tzero n)).toArray e), ⟨[w.heap.size], ?_, fun y hy => ?_⟩, ((Keeps.refl [] w).alloc _).below, ?_⟩
    · have h := Seg.ofBlk (w := w.alloc (.cells (flatC (tzero n)).toArray e)) (sz := 65) (cap := n) (Blk.new w e (flatC (tzero n)).toArray) (by simpa using hl) (by simp [maxLen]; omega)
      simpa using h
    · simp only [List.mem_singleton] at hy
      subst hy
      exact hb.size
    · unfold execOp
      simp only [ho, h1, h2, h3, h4]
      rw [Sem.run_bind, run_makeCells n hn ht hi]
      rfl

/-! ### Tables -/
/-- A table that is read. -/
def Ty.tab (e : TypeId) (seed : Nat) (L : List Cl) : Ty := ⟨fun w v => ∃ s, v = .agg #[.int .u64 (seed : Int), s] ∧ SlP w e s L.length (flatC L), fun t => t == e, fun ⟨s, h1, h2⟩ k hA => ⟨s, h1, (Ty.cls e L).st h2 k hA⟩⟩
/-- A table whose cells are the call's own. -/
def Ty.tabO (w0 : World) (e : TypeId) (seed : Nat) (L : List Cl) : Ty := ⟨fun w v => ∃ s, v = .agg #[.int .u64 (seed : Int), s] ∧ (Ty.seg w0 e 65 L.length (flatC L)).p w s, fun t => t == e, fun ⟨s, h1, h2⟩ k hA => ⟨s, h1, (Ty.seg _ e 65 L.length (flatC L)).st h2 k hA⟩⟩
theorem tabO_tab {w0 : World} {e : TypeId} {seed : Nat} {L : List Cl} : ∀ w v, (Ty.tabO w0 e seed L).p w v → (Ty.tab e seed L).p w v := fun _ _ ⟨s, h1, h2⟩ => ⟨s, h1, seg_sl _ _ h2⟩
theorem tabO_old {w1 w2 : World} (hs : w1.heap.size ≤ w2.heap.size) {e : TypeId} {seed : Nat} {L : List Cl} : ∀ w v, (Ty.tabO w2 e seed L).p w v → (Ty.tabO w1 e seed L).p w v := fun _ _ ⟨s, h1, h2⟩ => ⟨s, h1, seg_old hs _ _ h2⟩
theorem cBoxTab {P : Program} {w0 : World} {Γ : Ctx} {o : Oper} {t : TypeId} {x : Operand} {u s : Value} (ho : o.op = .box t x) (hx : OpT Γ x (Ty.ex (.agg #[u, s]))) : OpOk P w0 Γ o (Ty.at_ t [u, s]) := cBox ho hx
theorem size_u64 : (Tryz.prog.info? 31).map (·.size) = some 1 := by kernel_rfl
section
variable {w0 : World} {Γ : Ctx} {o : Oper} {x : Operand} {e : TypeId} {u s : Value}
theorem size_row46 : (Tryz.prog.info? 38).map (·.size) = some 1 := by kernel_rfl
theorem sizeT46 : (Tryz.prog.info? 40).map (·.size) = some 2 := by kernel_rfl
theorem infoT46 : (Tryz.prog.info? 40).map (fun i => (i.zero, i.size, i.bytes)) = some (some (.agg #[.int .u64 0, .slice none 0 0]), 2, 32) := by kernel_rfl
theorem cFldS46 (ho : o.op = .fieldAddr 40 x 0) (hx : Has w0 Γ x (Ty.at_ e [u, s])) : OpOk Tryz.prog w0 Γ o (Ty.at_ e [u, s]) :=
  (cFieldE (P := Tryz.prog) ho hx Tryz.underlying40 rfl size_u64).conv fun _ _ h => h
theorem cFldL46 (ho : o.op = .fieldAddr 40 x 1) (hx : Has w0 Γ x (Ty.at_ e [u, s])) : OpOk Tryz.prog w0 Γ o (Ty.at_ e [s]) :=
  (cFieldE (P := Tryz.prog) ho hx Tryz.underlying40 rfl size_row46).conv fun _ _ h => h
theorem cRowOf46 (ho : o.op = .load 38 x) (hx : Has w0 Γ x (Ty.at_ e [s])) : OpOk Tryz.prog w0 Γ o (Ty.ex s) := cLoad1 ho hx (pts_at _ _) Tryz.underlying38 rfl
theorem cLoadT46 (ho : o.op = .load 40 x) (hx : Has w0 Γ x (Ty.at_ e [u, s])) : OpOk Tryz.prog w0 Γ o (Ty.ex (.agg #[u, s])) := cLoadAll (cs := #[u, s]) ho hx Tryz.underlying40 rfl sizeT46
theorem buildTA46 (n : Int) (A : Option Addr) (l c : Nat) (w : World) : (Instr.build 40 #[(0, .int .u64 n), (1, .slice A l c)]).run Tryz.prog w = .ok (.agg #[.int .u64 n, .slice A l c]) w := by
  have hz : (zeroValue 40).run Tryz.prog w = .ok (.agg #[.int .u64 0, .slice none 0 0]) w := by kernel_rfl
  have hu := run_underlying Tryz.underlying40 w
  have h1 := Tryz.sizeOf31 w
  simp only [Instr.build, Sem.run_bind, hz, Result.andThen_ok, hu]
  simp [h1, Instr.fill, Value.cells]
theorem buildT46 (n : Int) {s : Value} (hs : ∃ A l c, s = .slice A l c) (w : World) : (Instr.build 40 #[(0, .int .u64 n), (1, s)]).run Tryz.prog w = .ok (.agg #[.int .u64 n, s]) w := by
  obtain ⟨A, l, c, rfl⟩ := hs
  exact buildTA46 n A l c w
theorem buildT046 (w : World) : (Instr.build 40 #[]).run Tryz.prog w = .ok (.agg #[.int .u64 0, .slice none 0 0]) w := by kernel_rfl
theorem cLoadU64 (ho : o.op = .load 31 x) {xs : List Value} (hx : Has w0 Γ x (Ty.at_ e (u :: xs))) : OpOk Tryz.prog w0 Γ o (Ty.ex u) := cLoad1 ho hx (pts_at _ _) Tryz.underlying31 rfl
end
section
variable {P : Program} {w0 : World} {Γ : Ctx} {o : Oper}
/-- A call through a function value, of one argument. -/
theorem cCallV1 {f : FuncId} {ats : Array TypeId} {x0 x : Operand} {τ ρ : Ty} (ho : o.op = .call { callee := .value x0, args := #[x], argTypes := ats }) (h0 : OpT Γ x0 (Ty.ex (.func (.func f) #[] #[]))) (hx : Has w0 Γ x τ) (hc : Fn1 P f τ ρ) : OpOk P w0 Γ o ρ :=
  .call fun a w hb hs => by
    obtain ⟨v0, k1, k2⟩ := hs x0 _ (by simp [ho, Op.operands, Call.operands]) h0
    have k2 : v0 = .func (.func f) #[] #[] := k2
    obtain ⟨v, h1, h2⟩ := hx.see hs (by simp [ho, Op.operands, Call.operands]) hb
    refine ⟨f, #[v], ?_, hc.ret w v h2⟩
    rw [exec_goV a.eval ho (k1.trans k2)]
    simp only [List.map_toArray, List.map_cons, List.map_nil, h1, Array.append_empty]
    exact hc.en _ w
structure FnR2 (P : Program) (f : FuncId) (τ σ : Ty) (ρ : World → Ty) : Prop where
  en : Enters P f
  ret : ∀ w v u, τ.p w v → σ.p w u → Ret P f #[v, u] w (ρ w)
structure FnR3 (P : Program) (f : FuncId) (τ σ υ : Ty) (ρ : World → Ty) : Prop where
  en : Enters P f
  ret : ∀ w v u z, τ.p w v → σ.p w u → υ.p w z → Ret P f #[v, u, z] w (ρ w)
def Olds (ρ : World → Ty) : Prop := ∀ {w1 w2 : World}, w1.heap.size ≤ w2.heap.size → ∀ w v, (ρ w2).p w v → (ρ w1).p w v
theorem goodN_rng {n : Int} (h : goodN n = true) : ∃ N : Nat, n = (N : Int) ∧ 3 ≤ N ∧ N ≤ 1024 := by
  have := of_decide_eq_true h
  exact ⟨n.toNat, by omega, by omega, by omega⟩
theorem cCallR2 {f : FuncId} {ats : Array TypeId} {x y : Operand} {τ σ : Ty} {ρ : World → Ty} (ho : o.op = .call { callee := .value (.func f), args := #[x, y], argTypes := ats }) (hx : Has w0 Γ x τ) (hy : Has w0 Γ y σ) (hc : FnR2 P f τ σ ρ) (hρ : Olds ρ) : OpOk P w0 Γ o (ρ w0) :=
  .call fun a w hb hs => by
    obtain ⟨v, h1, h2⟩ := hx.see hs (by simp [ho, Op.operands, Call.operands]) hb
    obtain ⟨u, h3, h4⟩ := hy.see hs (by simp [ho, Op.operands, Call.operands]) hb
    refine ⟨f, #[v, u], ?_, (hc.ret w v u h2 h4).mono (hρ hb.size)⟩
    rw [exec_go a.eval ho rfl]
    simp only [List.map_toArray, List.map_cons, List.map_nil, h1, h3]
    exact hc.en _ w
theorem cCallR3 {f : FuncId} {ats : Array TypeId} {x y z : Operand} {τ σ υ : Ty} {ρ : World → Ty} (ho : o.op = .call { callee := .value (.func f), args := #[x, y, z], argTypes := ats }) (hx : Has w0 Γ x τ) (hy : Has w0 Γ y σ) (hz : Has w0 Γ z υ) (hc : FnR3 P f τ σ υ ρ) (hρ : Olds ρ) : OpOk P w0 Γ o (ρ w0) :=
  .call fun a w hb hs => by
    obtain ⟨v, h1, h2⟩ := hx.see hs (by simp [ho, Op.operands, Call.operands]) hb
    obtain ⟨u, h3, h4⟩ := hy.see hs (by simp [ho, Op.operands, Call.operands]) hb
    obtain ⟨q, h5, h6⟩ := hz.see hs (by simp [ho, Op.operands, Call.operands]) hb
    refine ⟨f, #[v, u, q], ?_, (hc.ret w v u q h2 h4 h6).mono (hρ hb.size)⟩
    rw [exec_go a.eval ho rfl]
    simp only [List.map_toArray, List.map_cons, List.map_nil, h1, h3, h5]
    exact hc.en _ w
/-- A table built out of a row of one's own. -/
theorem cBuildTabO {t e : TypeId} {x y : Operand} {seed : Nat} {L : List Cl} (ho : o.op = .build t #[(0, x), (1, y)]) (hx : OpT Γ x (Ty.ex (.int .u64 (seed : Int)))) (hy : OpT Γ y (Ty.seg w0 e 65 L.length (flatC L))) (hr : ∀ (s : Value), (∃ A l c, s = .slice A l c) → ∀ w : World, (Instr.build t #[(0, .int .u64 (seed : Int)), (1, s)]).run P w = .ok (.agg #[.int .u64 (seed : Int), s]) w) : OpOk P w0 Γ o (Ty.tabO w0 e seed L) :=
  .val fun a w _ hs => by
    obtain ⟨v, h1, h2⟩ := hs x _ (by simp [ho, Op.operands]) hx
    obtain ⟨s, h3, h4⟩ := hs y _ (by simp [ho, Op.operands]) hy
    have h2 : v = .int .u64 (seed : Int) := h2
    subst h2
    have hf : ∃ A l c, s = .slice A l c := by
      obtain ⟨A, c, h, _⟩ := (seg_sl _ _ h4).form
      exact ⟨A, _, c, h⟩
    refine ⟨_, ⟨s, rfl, h4⟩, ?_⟩
    unfold execOp
    simp only [ho]
    have e1 : ((#[(0, x), (1, y)] : Array (Nat × Operand)).map fun (i, x) => (i, a.eval x)) = #[(0, .int .u64 (seed : Int)), (1, s)] := by simp [h1, h3]
    rw [e1, Sem.run_bind, hr s hf w]
    rfl
end
set_option maxRecDepth 100000 in
theorem cloneC_ty (L : List Cl) (hL : L.length ≤ 1000000) : FnSeg1 Tryz.prog 102 (Ty.cls 69 L) 69 65 L.length (flatC L) := by
  refine ⟨fun args w => by kernel_rfl, fun w v hv => ?_⟩
  have hv' := hv
  obtain ⟨A, c, rfl, hnc, hcm, hA, hr⟩ := hv'
  refine enter_ty 8 [Ty.ex (.slice A L.length c)] Tryz.func102 rfl (by kernel_rfl) ⟨rfl, trivial⟩ fun a hF => ?_
  have hB := Below.refl w.heap.size w
  repeat with_reducible refine wp_seq ?_
  refine' reg_all hF ?_ mixed (by kernel_rfl) ?_
  rotate_left
  · repeat (first | exact Line.nil | ((refine' Line.cons rfl (.run rfl rfl ?_) ?_); (any_goals exact cAssign rfl rfl); rotate_left))
  intro a w1 hF hb hN
  have hBs := hB.size
  replace hB := hB.trans (hb.mono hB.size)
  dsimp only [ext, Option.getD] at hF
  repeat with_reducible first | refine wp_seq ?_ | refine nThen ?_
  refine' reg_all hF ?_ mixed (by kernel_rfl) ?_
  rotate_left
  · repeat (first | exact Line.nil | ((refine' Line.cons rfl (.run rfl rfl ?_) ?_); (any_goals (first | exact cMove rfl rfl | exact cEqlNil rfl rfl Tryz.underlying38)); rotate_left))
  intro a w2 hF hb hN
  have hBs := hB.size
  replace hB := hB.trans (hb.mono hB.size)
  dsimp only [ext, Option.getD] at hF
  repeat with_reducible refine nThen ?_
  refine cond_ty hF rfl (fun h0 => ?_) (fun h1 => ?_)
  · have h0 : A = none := by cases A <;> simp at h0 ⊢
    have hl : L = [] := List.eq_nil_of_length_eq_zero (hA h0).1
    subst hl
    repeat with_reducible refine wp_seq ?_
    refine' reg_all hF ?_ mixed (by kernel_rfl) ?_
    rotate_left
    · repeat (first | exact Line.nil | ((refine' Line.cons rfl (.run rfl rfl ?_) ?_); (any_goals exact cAssign rfl rfl); rotate_left))
    intro a w3 hF hb hN
    have hBs := hB.size
    replace hB := hB.trans (hb.mono hB.size)
    dsimp only [ext, Option.getD] at hF
    repeat with_reducible first | refine nThen ?_ | refine wp_ret ?_ | refine rThen ?_
    refine ret1 hF rfl rfl fun z hz => ?_
    have hz : z = .slice none 0 0 := hz
    subst hz
    exact ⟨_, rfl, ⟨[], Seg.nil _ _ _, by simp⟩, hB⟩
  · repeat with_reducible first | refine wp_seq ?_ | refine nThen ?_ | refine wp_skip ?_
    refine' region_ty 2 mixed (by kernel_rfl) hF ?_ ?_
    rotate_left
    · simp only [List.take_succ_cons, List.take_zero]
      repeat (first | exact Line.nil | ((refine' Line.cons rfl (.run rfl rfl ?_) ?_); (any_goals (first | exact cMove rfl rfl | exact cBuild0 rfl Tryz.underlying38 infoC34)); rotate_left))
    intro a w3 hF hb hN
    have hBs := hB.size
    replace hB := hB.trans (hb.mono hB.size)
    simp only [List.take_succ_cons, List.take_zero, List.drop_succ_cons, List.drop_zero] at hF hN ⊢
    dsimp only [ext, Option.getD] at hF
    obtain ⟨u, ⟨S, hseg, hS⟩, hF⟩ := hF.open (s := 5) rfl
    refine tlAppend (Δ := []) hF rfl rfl rfl rfl Tryz.underlying38 infoC34 zero65_cells rfl hseg (.l (v := .slice A L.length c) rfl ((Ty.cls 69 L).below hv hB)) sl_news (flatC_len _) flatC_one' (by simp [maxLen]; omega) (by omega) hF.nil rfl ?_
    intro a w4 u' S' hF hseg' hk2 hS'
    have hbS : ∀ y ∈ S', w.heap.size ≤ y := own_next hB (fun y hy => Nat.le_trans hBs (hS y hy)) hS'
    replace hB := below_own hB hk2 (fun y hy => Nat.le_trans hBs (hS y hy))
    refine' tlOp hF rfl rfl rfl ?_ ?_
    rotate_left
    · exact cAssign rfl rfl
    intro a w5 hF hb
    have hBs := hB.size
    replace hB := hB.trans (hb.mono hB.size)
    try (refine wpList_nil ?_)
    repeat with_reducible first | refine nThen ?_ | refine wp_ret ?_
    refine ret1 hF rfl rfl fun z hz => ?_
    have hz : z = u' := hz
    subst hz
    rw [Nat.zero_add, List.nil_append] at hseg'
    exact ⟨_, rfl, ⟨S', hseg'.below hb, hbS⟩, hB⟩
set_option maxRecDepth 100000 in
theorem tgood_ty (seed : Nat) (L : List Cl) : Fn1 Tryz.prog 70 (Ty.tab 69 seed L) (Ty.ex (.bool (goodN (L.length : Int)))) := by
  refine ⟨fun args w => by kernel_rfl, fun w v ⟨s, hv, hs⟩ => ?_⟩
  subst hv
  have hG := good14_ty (L.length : Int)
  refine enter_ty 7 [Ty.ex (.agg #[.int .u64 (seed : Int), s])] Tryz.func70 rfl (by kernel_rfl) ⟨rfl, trivial⟩ fun a hF => ?_
  have hB := Below.refl w.heap.size w
  repeat with_reducible refine wp_seq ?_
  refine' reg_all hF ?_ mixed (by kernel_rfl) ?_
  rotate_left
  · repeat (first | exact Line.nil | ((refine' Line.cons rfl (.run rfl rfl ?_) ?_); (any_goals (first | exact cAssign rfl rfl | exact cBoxTab rfl rfl)); rotate_left))
  intro a w1 hF hb hN
  have hBs := hB.size
  replace hB := hB.trans (hb.mono hB.size)
  dsimp only [ext, Option.getD] at hF
  repeat with_reducible first | refine wp_seq ?_ | refine nThen ?_
  have hs1 := (Ty.cls 69 L).below hs hB
  refine' reg_all hF ?_ mixed (by kernel_rfl) ?_
  rotate_left
  · repeat (first | exact Line.nil | ((refine' Line.cons rfl (.run rfl rfl ?_) ?_); (any_goals (first | exact cAssign rfl rfl | exact cFldL46 rfl (.t rfl) | exact cRowOf46 rfl (.t rfl) | exact cLenH rfl (.l rfl hs1) (Ty.sl_isSl _ _ _) Tryz.underlying38 | exact cCall1 rfl rfl hG)); rotate_left))
  intro a w2 hF hb hN
  have hBs := hB.size
  replace hB := hB.trans (hb.mono hB.size)
  dsimp only [ext, Option.getD] at hF
  repeat with_reducible first | refine nThen ?_ | refine wp_ret ?_
  refine ret1 hF rfl rfl fun z hz => ?_
  exact ⟨z, rfl, hz, hB⟩
/-- New cells, or none. -/
def newL (n : Int) : List Cl := if goodN n then tzero n.toNat else []
def newS (seed : Nat) (n : Int) : Nat := if goodN n then seed else 0
def newE (n : Int) : Value := .int .i64 (if goodN n then 0 else 1)
/-- A table with an error's number. -/
def Ty.tabE (w0 : World) (e : TypeId) (seed : Nat) (L : List Cl) (err : Value) : Ty := ⟨fun w v => ∃ u, v = .tuple #[u, err] ∧ (Ty.tabO w0 e seed L).p w u, fun t => t == e, fun ⟨u, h1, h2⟩ k hA => ⟨u, h1, (Ty.tabO _ e seed L).st h2 k hA⟩⟩
theorem tabE_old {w1 w2 : World} (hs : w1.heap.size ≤ w2.heap.size) {e : TypeId} {seed : Nat} {L : List Cl} {err : Value} : ∀ w v, (Ty.tabE w2 e seed L err).p w v → (Ty.tabE w1 e seed L err).p w v := fun _ _ ⟨u, h1, h2⟩ => ⟨u, h1, tabO_old hs _ _ h2⟩
theorem tabE_olds (e : TypeId) (seed : Nat) (L : List Cl) (err : Value) : Olds fun w => Ty.tabE w e seed L err := fun hs _ _ h => tabE_old hs _ _ h
end Go.Proofs.YtmefpnklgfhggaaGreatDoor

/- Layer 15 by types: New, Zero. -/
namespace Go.Proofs.YtmefpnklgfhggaaGreatDoor
open Go.RowKit

theorem tabCells (seed : Nat) (A : Option Addr) (l c : Nat) : (Value.agg #[.int .u64 (seed : Int), .slice A l c]).cells.all (·.oneCell') = true := by simp [Value.cells, Value.oneCell']
theorem sl_one {w : World} {e : TypeId} {v : Value} {n : Nat} {xs : List Value} (h : SlP w e v n xs) (seed : Nat) : (Value.agg #[.int .u64 (seed : Int), v]).cells.all (·.oneCell') = true := by
  obtain ⟨A, c, rfl, _⟩ := h
  exact tabCells seed A n c
theorem sl_isA {w : World} {e : TypeId} {v : Value} {n : Nat} {xs : List Value} (h : SlP w e v n xs) : ∃ A l c, v = .slice A l c := by
  obtain ⟨A, c, rfl, _⟩ := h
  exact ⟨A, n, c, rfl⟩
/-- A row's blocks are other ones than a variable of another type. -/
theorem seg_far {w : World} {e t : TypeId} {sz n g : Nat} {v : Value} {xs : List Value} {S : List Nat} {cs : Array Value} (h : Seg w e sz v n xs S) (hb : Blk w g t cs) (hne : (t == e) = false) : ∀ y ∈ S, y ∉ [g] := fun y hy hm => by
  simp only [List.mem_singleton] at hm
  subst hm
  obtain ⟨cs', fr, h1⟩ := h.blocks y hy hb.lt
  unfold Blk at hb
  rw [hb] at h1
  simp only [Option.some.injEq, Obj.cells.injEq] at h1
  rw [h1.2.1] at hne
  simp at hne
abbrev zeroT : Array Value := #[.int .u64 0, .slice none 0 0]
set_option maxRecDepth 100000 in
theorem tnew_ty (seed : Nat) (n : Int) : FnR2 Tryz.prog 18 (Ty.ex (.int .u64 (seed : Int))) (Ty.ex (.int .i64 n)) (fun w => Ty.tabE w 69 (newS seed n) (newL n) (newE n)) := by
  refine ⟨fun args w => by kernel_rfl, fun w v u hv hu => ?_⟩
  have hg := good14_ty n
  by_cases hgn : goodN n = true
  rotate_left
  · have hgn : goodN n = false := by simpa using hgn
    rw [hgn] at hg
    have e1 : newS seed n = 0 := by unfold newS; rw [hgn]; rfl
    have e2 : newL n = [] := by unfold newL; rw [hgn]; rfl
    have e3 : newE n = .int .i64 1 := by unfold newE; rw [hgn]; rfl
    rw [e1, e2, e3]
    refine enter_ty 14 [Ty.ex (.int .u64 (seed : Int)), Ty.ex (.int .i64 n)] Tryz.func18 rfl (by kernel_rfl) ⟨hv, hu, trivial⟩ fun a hF => ?_
    have hB := Below.refl w.heap.size w
    repeat with_reducible refine wp_seq ?_
    refine' reg_all hF ?_ mixed (by kernel_rfl) ?_
    rotate_left
    · repeat (first
          | exact Line.nil
          | (refine' Line.cons rfl (.new rfl rfl (run_alloc_i infoT46) rfl) ?_; rotate_left)
          | ((refine' Line.cons rfl (.run rfl rfl ?_) ?_)
             any_goals exact cAssign rfl rfl
             rotate_left))
    intro a w1 hF hb hN
    have hBs := hB.size
    replace hB := hB.trans (hb.mono hB.size)
    dsimp only [ext, Option.getD] at hF
    repeat with_reducible first | refine wp_seq ?_ | refine nThen ?_
    obtain ⟨z, ⟨gx, rfl, hgx, hbx⟩, hF⟩ := hF.open (s := 4) rfl
    refine' reg_all hF ?_ mixed (by kernel_rfl) ?_
    rotate_left
    · repeat (first | exact Line.nil | ((refine' Line.cons rfl (.run rfl rfl ?_) ?_); (any_goals (first | exact cMove rfl rfl | exact cNot rfl rfl | exact cCall1 rfl rfl hg)); rotate_left))
    intro a w2 hF hb hN
    have hBs := hB.size
    replace hB := hB.trans (hb.mono hB.size)
    dsimp only [ext, Option.getD] at hF
    repeat with_reducible refine nThen ?_
    replace hbx := hbx.below hb
    refine cond_t hF rfl ?_
    repeat with_reducible refine wp_seq ?_
    refine' region_ty 1 mixed (by kernel_rfl) hF ?_ ?_
    rotate_left
    · simp only [List.take_succ_cons, List.take_zero]
      repeat (first | exact Line.nil | ((refine' Line.cons rfl (.run rfl rfl ?_) ?_); (any_goals exact cBuildE rfl (fun w => buildT046 w)); rotate_left))
    intro a w3 hF hb hN
    have hBs := hB.size
    replace hB := hB.trans (hb.mono hB.size)
    simp only [List.take_succ_cons, List.take_zero, List.drop_succ_cons, List.drop_zero] at hF hN ⊢
    dsimp only [ext, Option.getD] at hF
    replace hbx := hbx.below hb
    refine tlStoreV (Δ := [(4, Ty.ex (.pointer (some ⟨gx, 0, none⟩)))]) hF rfl rfl rfl rfl (hF.getEx (s := 9) rfl) hbx rfl sizeT46 (tabCells 0 _ _ _) (hF.keep [4]) rfl ?_
    intro w4 hF hbx hkx
    replace hB := below_own hB hkx (by intro y hy; simp only [List.mem_singleton] at hy; omega)
    refine' tlOp hF rfl rfl rfl ?_ ?_
    rotate_left
    · exact cAssign rfl rfl
    intro a w5 hF hb
    have hBs := hB.size
    replace hB := hB.trans (hb.mono hB.size)
    try (refine wpList_nil ?_)
    repeat with_reducible first | refine nThen ?_ | refine wp_ret ?_ | refine rThen ?_
    replace hbx := hbx.below hb
    refine retCell2 hF rfl rfl rfl hbx Tryz.underlying40 rfl sizeT46 ?_
    exact ⟨_, rfl, ⟨_, rfl, _, rfl, [], Seg.nil _ _ _, by simp⟩, hB⟩
  obtain ⟨N, rfl, hN1, hN2⟩ := goodN_rng hgn
  rw [hgn] at hg
  have e1 : newS seed (N : Int) = seed := by unfold newS; rw [hgn]; rfl
  have e2 : newL (N : Int) = tzero N := by unfold newL; rw [hgn, Int.toNat_natCast]; rfl
  have e3 : newE (N : Int) = .int .i64 0 := by unfold newE; rw [hgn]; rfl
  rw [e1, e2, e3]
  refine enter_ty 14 [Ty.ex (.int .u64 (seed : Int)), Ty.ex (.int .i64 (N : Int))] Tryz.func18 rfl (by kernel_rfl) ⟨hv, hu, trivial⟩ fun a hF => ?_
  have hB := Below.refl w.heap.size w
  repeat with_reducible refine wp_seq ?_
  refine' reg_all hF ?_ mixed (by kernel_rfl) ?_
  rotate_left
  · repeat (first
        | exact Line.nil
        | (refine' Line.cons rfl (.new rfl rfl (run_alloc_i infoT46) rfl) ?_; rotate_left)
        | ((refine' Line.cons rfl (.run rfl rfl ?_) ?_)
           any_goals exact cAssign rfl rfl
           rotate_left))
  intro a w1 hF hb hN
  have hBs := hB.size
  replace hB := hB.trans (hb.mono hB.size)
  dsimp only [ext, Option.getD] at hF
  repeat with_reducible first | refine wp_seq ?_ | refine nThen ?_
  obtain ⟨z, ⟨gx, rfl, hgx, hbx⟩, hF⟩ := hF.open (s := 4) rfl
  refine' reg_all hF ?_ mixed (by kernel_rfl) ?_
  rotate_left
  · repeat (first | exact Line.nil | ((refine' Line.cons rfl (.run rfl rfl ?_) ?_); (any_goals (first | exact cMove rfl rfl | exact cNot rfl rfl | exact cCall1 rfl rfl hg)); rotate_left))
  intro a w2 hF hb hN
  have hBs := hB.size
  replace hB := hB.trans (hb.mono hB.size)
  dsimp only [ext, Option.getD] at hF
  repeat with_reducible refine nThen ?_
  replace hbx := hbx.below hb
  refine cond_f hF rfl ?_
  repeat with_reducible first | refine wp_seq ?_ | refine nThen ?_ | refine wp_skip ?_
  have hw2 := hB.size
  refine' region_ty 4 mixed (by kernel_rfl) hF ?_ ?_
  rotate_left
  · simp only [List.take_succ_cons, List.take_zero]
    repeat (first | exact Line.nil | ((refine' Line.cons rfl (.run rfl rfl ?_) ?_); (any_goals (first | exact cMove rfl rfl | exact cMakeCells (n := N) rfl rfl rfl Tryz.underlying38 infoC34 (by omega) | exact cBuildTabO (L := tzero N) rfl rfl rfl (fun s hs w => buildT46 _ hs w))); rotate_left))
  intro a w3 hF hb hN
  have hBs := hB.size
  replace hB := hB.trans (hb.mono hB.size)
  simp only [List.take_succ_cons, List.take_zero, List.drop_succ_cons, List.drop_zero] at hF hN ⊢
  dsimp only [ext, Option.getD] at hF
  replace hbx := hbx.below hb
  have hgx2 := hbx.lt
  obtain ⟨z, ⟨s, rfl, S, hs, hS⟩, hF⟩ := hF.open (s := 13) rfl
  refine tlStoreV (Δ := [(4, Ty.ex (.pointer (some ⟨gx, 0, none⟩)))]) hF rfl rfl rfl rfl (hF.getEx (s := 13) rfl) hbx rfl sizeT46 (sl_one hs.sl _) (hF.keep [4]) rfl ?_
  intro w4 hF hbx' hkx
  replace hB := below_own hB hkx (by intro y hy; simp only [List.mem_singleton] at hy; omega)
  replace hs := hs.keeps hkx (seg_far hs hbx (by decide))
  refine' tlOp hF rfl rfl rfl ?_ ?_
  rotate_left
  · exact cAssign rfl rfl
  intro a w5 hF hb
  have hBs := hB.size
  replace hB := hB.trans (hb.mono hB.size)
  try (refine wpList_nil ?_)
  repeat with_reducible first | refine nThen ?_ | refine wp_ret ?_
  refine retCell2 hF rfl rfl rfl (hbx'.below hb) Tryz.underlying40 rfl sizeT46 ?_
  exact ⟨_, rfl, ⟨_, rfl, s, rfl, S, hs.below hb, fun y hy => Nat.le_trans hw2 (hS y hy)⟩, hB⟩
end Go.Proofs.YtmefpnklgfhggaaGreatDoor
