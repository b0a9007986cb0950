/- Joined: PeelB, PeelC, PeelD, TyE, PeelE, PeelF, PeelG, PeelH, TabO, PeelI, PeelJ, PeelL, StraA, StraB, TyH. -/
import Derived.Test.YtmefpnklgfhggaaGreatDoorZReconKnownCard3
/- The peeler's memory; lines for its fields. -/
namespace Go.Proofs.YtmefpnklgfhggaaGreatDoor
open Go.RowKit

abbrev PeelT : TypeId := 179
section
variable {P : Program} {w0 : World} {Γ : Ctx} {o : Oper} {x : Operand}
theorem cNilOk {A : Addr} (ho : o.op = .nilCheck x) (hx : OpT Γ x (Ty.ex (.pointer (some A)))) : OpOk P w0 Γ o (Ty.ex (.pointer (some A))) :=
  .val fun a w _ hs => by
    obtain ⟨v, h1, h2⟩ := hs x _ (by simp [ho, Op.operands]) hx
    have h2 : v = .pointer (some A) := h2
    refine ⟨_, rfl, ?_⟩
    unfold execOp
    simp [ho, h1, h2]
/-- A part of a triple that is known. -/
theorem cExtV {i : Nat} {vs : Array Value} {v : Value} (ho : o.op = .extract x i) (hx : OpT Γ x (Ty.ex (.tuple vs))) (hi : vs[i]? = some v) : OpOk P w0 Γ o (Ty.ex v) :=
  .val fun a w _ hs => by
    obtain ⟨u, h1, h2⟩ := hs x _ (by simp [ho, Op.operands]) hx
    have h2 : u = .tuple vs := h2
    refine ⟨_, rfl, ?_⟩
    unfold execOp
    simp [ho, h1, h2, Instr.extract, hi]
end
/-- The peeler's cells. -/
def peelCells (seed : Nat) (sL sP : Value) (bm : Nat) (s0 s1 : Value) : List Value := [.int .u64 (seed : Int), sL, sP, .map (some bm), s0, s1]
/-- A peeler at block gp: a table, which cells are pure, the sums had, the sums of both ways. -/
structure PeelMem (w : World) (gp seed : Nat) (sL sP : Value) (bm : Nat) (s0 s1 : Value) (L : List Cl) (B : List Bool) (S r0 r1 : List Sm) (SL SP S0 S1 : List Nat) (n : Nat) : Prop where
  blk : Blk w gp PeelT (peelCells seed sL sP bm s0 s1).toArray
  tab : Seg w 69 65 sL L.length (flatC L) SL
  pure : Seg w 4 1 sP L.length (B.map bvl) SP
  had : MapIs w bm n S
  minus : Seg w 28 32 s0 r0.length (flat r0) S0
  plus : Seg w 28 32 s1 r1.length (flat r1) S1
  apart : ∀ y ∈ S0, y ∉ S1
theorem PeelMem.below {w w' : World} {gp seed bm n : Nat} {sL sP s0 s1 : Value} {L : List Cl} {B : List Bool} {S r0 r1 : List Sm} {SL SP S0 S1 : List Nat} (h : PeelMem w gp seed sL sP bm s0 s1 L B S r0 r1 SL SP S0 S1 n) (hb : Below w.heap.size w w') : PeelMem w' gp seed sL sP bm s0 s1 L B S r0 r1 SL SP S0 S1 n :=
  ⟨h.blk.below hb, h.tab.below hb, h.pure.below hb, h.had.keeps (Keeps.of_below (S := []) hb) (by simp), h.minus.below hb, h.plus.below hb, h.apart⟩
theorem PeelMem.at_ {w : World} {gp seed bm n : Nat} {sL sP s0 s1 : Value} {L : List Cl} {B : List Bool} {S r0 r1 : List Sm} {SL SP S0 S1 : List Nat} (h : PeelMem w gp seed sL sP bm s0 s1 L B S r0 r1 SL SP S0 S1 n) : (Ty.at_ PeelT (peelCells seed sL sP bm s0 s1)).p w (.pointer (some ⟨gp, 0, none⟩)) := ⟨gp, 0, _, (0, 0), rfl, h.blk, fun j u hu => by simpa using hu⟩
section
variable {w0 : World} {Γ : Ctx} {o : Oper} {x : Operand} {e : TypeId} {xs : List Value}
theorem cPeelT (ho : o.op = .fieldAddr PeelT x 0) (hx : Has w0 Γ x (Ty.at_ e xs)) : OpOk Tryz.prog w0 Γ o (Ty.at_ e xs) :=
  (cFieldE (P := Tryz.prog) ho hx Tryz.underlying179 rfl sizeT46).conv fun _ _ h => h
theorem cPeelP (ho : o.op = .fieldAddr PeelT x 1) (hx : Has w0 Γ x (Ty.at_ e xs)) : OpOk Tryz.prog w0 Γ o (Ty.at_ e (xs.drop 2)) :=
  cFieldE (P := Tryz.prog) (sz := 0) ho hx Tryz.underlying179 rfl (by kernel_rfl)
theorem cPeelM (ho : o.op = .fieldAddr PeelT x 2) (hx : Has w0 Γ x (Ty.at_ e xs)) : OpOk Tryz.prog w0 Γ o (Ty.at_ e (xs.drop 3)) :=
  cFieldE (P := Tryz.prog) (sz := 0) ho hx Tryz.underlying179 rfl (by kernel_rfl)
theorem cPeelR (ho : o.op = .fieldAddr PeelT x 3) (hx : Has w0 Γ x (Ty.at_ e xs)) : OpOk Tryz.prog w0 Γ o (Ty.at_ e (xs.drop 4)) :=
  cFieldE (P := Tryz.prog) (sz := 1) ho hx Tryz.underlying179 rfl (by kernel_rfl)
end
end Go.Proofs.YtmefpnklgfhggaaGreatDoor

/- The peeler's look. -/
namespace Go.Proofs.YtmefpnklgfhggaaGreatDoor
open Go.RowKit

section
variable {P : Program} {w0 : World} {Γ : Ctx} {o : Oper} {x : Operand}
theorem cNilAt {e : TypeId} {xs : List Value} (ho : o.op = .nilCheck x) (hx : OpT Γ x (Ty.at_ e xs)) : OpOk P w0 Γ o (Ty.at_ e xs) :=
  .val fun a w _ hs => by
    obtain ⟨v, h1, g, off, cs, fr, rfl, h2⟩ := hs x _ (by simp [ho, Op.operands]) hx
    refine ⟨_, ⟨g, off, cs, fr, rfl, h2⟩, ?_⟩
    unfold execOp
    simp [ho, h1]
end
theorem cFldLx {w0 : World} {Γ : Ctx} {o : Oper} {x : Operand} {e : TypeId} {xs : List Value} (ho : o.op = .fieldAddr 40 x 1) (hx : Has w0 Γ x (Ty.at_ e xs)) : OpOk Tryz.prog w0 Γ o (Ty.at_ e (xs.drop 1)) := cFieldE (P := Tryz.prog) ho hx Tryz.underlying40 rfl size_row46
theorem cFldSx {w0 : World} {Γ : Ctx} {o : Oper} {x : Operand} {e : TypeId} {xs : List Value} (ho : o.op = .fieldAddr 40 x 0) (hx : Has w0 Γ x (Ty.at_ e xs)) : OpOk Tryz.prog w0 Γ o (Ty.at_ e xs) := (cFieldE (P := Tryz.prog) ho hx Tryz.underlying40 rfl size_u64).conv fun _ _ h => h
theorem over_bool (B : List Bool) {i : Nat} (p : Bool) (hi : i < B.length) : over (B.map bvl) (i * 1) [bvl p] = (B.set i p).map bvl := by
  unfold over
  rw [List.length_singleton, Nat.mul_one, List.set_eq_take_append_cons_drop, if_pos hi, List.map_append, List.map_cons, List.map_take, List.map_drop]
  simp
section
variable {P : Program} {ops : Array Oper} {Q : Exit → Act → World → Prop} {N : Nat} {Γ : Ctx} {a : Act} {w : World} {o : Oper} {rest : List Oper}
/-- Whatever value is stored into a row of one's own. -/
theorem tlStoreAtV {Δ : Ctx} {ty e : TypeId} {p : Nat} {y : Operand} {sz g off n cap k : Nat} {xs : List Value} {v : Value} (hF : Fr N Γ a w) (hg : o.guard = none) (hd : o.dst = none) (ho : o.op = .store ty (.tmp p) y) (hp : look Γ p = some (Ty.ex (.pointer (some ⟨g, off + k, none⟩)))) (hy : a.eval y = v)
    (hseg : SegL w e sz g off n cap xs) (hk : k + v.cells.size ≤ n * sz) (hi : (P.info? ty).map (·.size) = some v.cells.size) (h1 : v.cells.all (·.oneCell') = true) (hΔ : Fr N Δ a w) (hfree : Δ.free e = true)
    (hq : ∀ w', Fr N Δ a w' → SegL w' e sz g off n cap (over xs k v.cells.toList) → Keeps [g] w w' → wpList P ops Q rest a w') : wpList P ops Q (o :: rest) a w := by
  refine wpList_plain hg fun K hK => ?_
  unfold Oper.wp execOp
  simp only [ho, hF.getEx hp, hy, Instr.storeAt, Instr.sureAddr, Sem.run_bind, Sem.run_pure, Result.andThen_ok, storeVar_cells ty _ v, run_storeVar_mid w g (off + k) ty v.cells (hseg.there hk) hi h1]
  obtain ⟨h2, h3⟩ := hseg.write (k := k) (vs := v.cells.toList) (by simpa using hk)
  refine hK _ _ ?_
  rw [hd]
  refine hq _ (hΔ.free h3 (fun b hb _ => ?_) hfree) h2 h3
  simp only [List.mem_singleton] at hb
  subst hb
  exact hseg.block
end
theorem ret0 {P : Program} {fn : Func} {R : Ending → World → Prop} {a : Act} {w : World} (hr : fn.results = #[]) (hd : a.defers = []) (hR : R (.returned (.tuple #[])) w) : bodyPost P fn R .normal a w := bodyPost_end (v := .tuple #[]) (by simp [results, hr]) hd hR
theorem Cl.sum_ok {c : Cl} (h : c.ok = true) : c.sum = c.key := by unfold Cl.sum; rw [h]; rfl
theorem segs_far {w : World} {e e2 : TypeId} {sz sz2 n g off n2 cap : Nat} {v : Value} {xs ys : List Value} {S : List Nat} (h : Seg w e sz v n xs S) (hb : SegL w e2 sz2 g off n2 cap ys) (hne : (e2 == e) = false) : ∀ y ∈ S, y ∉ [g] := fun y hy hm => by
  simp only [List.mem_singleton] at hm
  subst hm
  obtain ⟨cs, fr, h1⟩ := hb.block
  obtain ⟨cs', fr', h2⟩ := h.blocks y hy (Array.getElem?_eq_some_iff.1 h1).1
  rw [h1] at h2
  simp only [Option.some.injEq, Obj.cells.injEq] at h2
  rw [h2.2.1] at hne
  simp at hne
theorem peel_stored {w w' : World} {gp seed bm n g off cap : Nat} {sL sP s0 s1 : Value} {L : List Cl} {B B' : List Bool} {S r0 r1 : List Sm} {SL SP S0 S1 : List Nat} (h : PeelMem w gp seed sL sP bm s0 s1 L B S r0 r1 SL SP S0 S1 n) (h0 : SegL w 4 1 g off L.length cap (B.map bvl)) (hk : Keeps [g] w w') (h1 : SegL w' 4 1 g off L.length cap (B'.map bvl)) (eS : SP = [g]) (eP : sP = .slice (some ⟨g, off, none⟩) L.length cap) : PeelMem w' gp seed sL sP bm s0 s1 L B' S r0 r1 SL SP S0 S1 n := by
  subst eS eP
  refine ⟨h.blk.keeps hk ?_, h.tab.keeps hk (segs_far h.tab h0 (by decide)), h1.seg, h.had.keeps hk ?_, h.minus.keeps hk (segs_far h.minus h0 (by decide)), h.plus.keeps hk (segs_far h.plus h0 (by decide)), h.apart⟩
  · intro hm
    simp only [List.mem_singleton] at hm
    exact segl_far h0 h.blk (by decide) hm
  · intro hm
    simp only [List.mem_singleton] at hm
    subst hm
    obtain ⟨cs, fr, h2⟩ := h0.block
    obtain ⟨es, clock, h3⟩ := h.had.obj
    rw [h2] at h3
    cases h3
set_option maxRecDepth 100000 in
set_option maxHeartbeats 4000000 in
theorem look_any {w : World} {gp seed bm n : Nat} {sL sP s0 s1 : Value} {L : List Cl} {B : List Bool} {S r0 r1 : List Sm} {SL SP S0 S1 : List Nat} (h : PeelMem w gp seed sL sP bm s0 s1 L B S r0 r1 SL SP S0 S1 n) (hBL : B.length = L.length) (hsd : seed < 18446744073709551616) {i : Nat} (hi : i < L.length) :
    Calls Tryz.prog 104 #[.pointer (some ⟨gp, 0, none⟩), .int .i64 (i : Int)] w fun e w' => e = .returned (.tuple #[]) ∧ PeelMem w' gp seed sL sP bm s0 s1 L (B.set i (pureAt seed L i)) S r0 r1 SL SP S0 S1 n ∧ Keeps SP w w' := by
  have hPu := pure_ty (L.getD i default)
  have hok := Cl.sum_ok (c := L.getD i default)
  have ePA : pureAt seed L i = ((L.getD i default).ok && isAt seed L.length i (L.getD i default).key) := rfl
  refine enter_ty 44 [Ty.at_ PeelT (peelCells seed sL sP bm s0 s1), Ty.ex (.int .i64 (i : Int))] Tryz.func104 rfl (by kernel_rfl) ⟨h.at_, rfl, trivial⟩ fun a hF => ?_
  have hB := Below.refl w.heap.size w
  repeat with_reducible refine wp_seq ?_
  refine wp_region_lit ?_
  refine' tlOp hF rfl rfl rfl ?_ ?_
  rotate_left
  · exact cMove rfl rfl
  intro a w1 hF hb
  have hBs := hB.size
  replace hB := hB.trans (hb.mono hB.size)
  try (refine wpList_nil ?_)
  refine' tlOp hF rfl rfl rfl ?_ ?_
  rotate_left
  · exact cNilAt rfl rfl
  intro a w2 hF hb
  have hBs := hB.size
  replace hB := hB.trans (hb.mono hB.size)
  try (refine wpList_nil ?_)
  refine' tlOp hF rfl rfl rfl ?_ ?_
  rotate_left
  · exact cPeelT rfl (.t rfl)
  intro a w3 hF hb
  have hBs := hB.size
  replace hB := hB.trans (hb.mono hB.size)
  try (refine wpList_nil ?_)
  refine' tlOp hF rfl rfl rfl ?_ ?_
  rotate_left
  · exact cFldLx rfl (.t rfl)
  intro a w4 hF hb
  have hBs := hB.size
  replace hB := hB.trans (hb.mono hB.size)
  try (refine wpList_nil ?_)
  refine' tlOp hF rfl rfl rfl ?_ ?_
  rotate_left
  · exact cLoad1 (u := sL) rfl (.t rfl) (pts_at _ _) Tryz.underlying38 rfl
  intro a w5 hF hb
  have hBs := hB.size
  replace hB := hB.trans (hb.mono hB.size)
  try (refine wpList_nil ?_)
  replace hF := hF.as hF (s := 12) (σ := Ty.cls 69 L) rfl (fun v hv => by rw [show v = sL from hv]; exact (h.below hB).tab.sl)
  refine' tlOp hF rfl rfl rfl ?_ ?_
  rotate_left
  · exact cMove rfl rfl
  intro a w6 hF hb
  have hBs := hB.size
  replace hB := hB.trans (hb.mono hB.size)
  try (refine wpList_nil ?_)
  refine' tlOp hF rfl rfl rfl ?_ ?_
  rotate_left
  · exact cIndexCl (k := i) rfl (.t rfl) rfl Tryz.underlying38 info34 hi
  intro a w7 hF hb
  have hBs := hB.size
  replace hB := hB.trans (hb.mono hB.size)
  try (refine wpList_nil ?_)
  refine' tlOp hF rfl rfl rfl ?_ ?_
  rotate_left
  · exact cLoadCl34 rfl (.t rfl)
  intro a w8 hF hb
  have hBs := hB.size
  replace hB := hB.trans (hb.mono hB.size)
  try (refine wpList_nil ?_)
  refine' tlOp hF rfl rfl rfl ?_ ?_
  rotate_left
  · exact cCall1 rfl rfl hPu
  intro a w9 hF hb
  have hBs := hB.size
  replace hB := hB.trans (hb.mono hB.size)
  try (refine wpList_nil ?_)
  refine' tlOp hF rfl rfl rfl ?_ ?_
  rotate_left
  · exact cMove rfl rfl
  intro a w10 hF hb
  have hBs := hB.size
  replace hB := hB.trans (hb.mono hB.size)
  try (refine wpList_nil ?_)
  refine' tlOp hF rfl rfl rfl ?_ ?_
  rotate_left
  · exact cExtV rfl rfl rfl
  intro a w11 hF hb
  have hBs := hB.size
  replace hB := hB.trans (hb.mono hB.size)
  try (refine wpList_nil ?_)
  refine' tlOp hF rfl rfl rfl ?_ ?_
  rotate_left
  · exact cExtV rfl rfl rfl
  intro a w12 hF hb
  have hBs := hB.size
  replace hB := hB.trans (hb.mono hB.size)
  try (refine wpList_nil ?_)
  refine' tlOp hF rfl rfl rfl ?_ ?_
  rotate_left
  · exact cExtV rfl rfl rfl
  intro a w13 hF hb
  have hBs := hB.size
  replace hB := hB.trans (hb.mono hB.size)
  try (refine wpList_nil ?_)
  have hw13 := hB.size
  refine' tlOp hF rfl rfl rfl ?_ ?_
  rotate_left
  · exact cAllocN rfl (run_alloc_i infoS)
  intro a w14 hF hb
  have hBs := hB.size
  replace hB := hB.trans (hb.mono hB.size)
  try (refine wpList_nil ?_)
  obtain ⟨z, ⟨g4, rfl, hg4, hb4⟩, hF⟩ := hF.open (s := 4) rfl
  have hg4 : w13.heap.size ≤ g4 := hg4
  refine tlStoreV (Δ := [(0, Ty.at_ PeelT (peelCells seed sL sP bm s0 s1)), (1, Ty.ex (.int .i64 (i : Int))), (4, Ty.ex (.pointer (some ⟨g4, 0, none⟩))), (18, Ty.ex (.bool (L.getD i default).plus)), (19, Ty.ex (.bool (L.getD i default).ok))]) hF rfl rfl rfl rfl (hF.getEx (s := 17) rfl) hb4 (sumSz _) (by show _ = some (u8s _).size; rw [Sm.size]; exact sizeS) (u8s_one _) (hF.keep [0, 1, 4, 18, 19]) rfl ?_
  intro w15 hF hb4' hkx
  replace hB := below_own hB hkx (by intro y hy; simp only [List.mem_singleton] at hy; omega)
  have hx4 : (Ty.at_ 28 (L.getD i default).sum.enc).p w15 (.pointer (some ⟨g4, 0, none⟩)) := by
    have h : (Ty.at_ 28 (Value.agg (u8s (L.getD i default).sum.l)).cells.toList).p w15 (.pointer (some ⟨g4, 0, none⟩)) := blk_at hb4'
    rwa [show (Value.agg (u8s (L.getD i default).sum.l)).cells.toList = (L.getD i default).sum.enc from u8s_list _] at h
  replace hF := hF.as hF (s := 4) (σ := Ty.at_ 28 (L.getD i default).sum.enc) rfl (fun v hv => by rw [show v = .pointer (some ⟨g4, 0, none⟩) from hv]; exact hx4)
  refine' tlOp hF rfl rfl rfl ?_ ?_
  rotate_left
  · exact cAssign rfl rfl
  intro a w16 hF hb
  have hBs := hB.size
  replace hB := hB.trans (hb.mono hB.size)
  try (refine wpList_nil ?_)
  refine' tlOp hF rfl rfl rfl ?_ ?_
  rotate_left
  · exact cAssign rfl rfl
  intro a w17 hF hb
  have hBs := hB.size
  replace hB := hB.trans (hb.mono hB.size)
  try (refine wpList_nil ?_)
  repeat with_reducible refine nThen ?_
  replace h := h.below hB
  have hPp := places_ty seed (L.length : Int) (L.getD i default).sum hsd
  have hPl3 := placesN_len3 seed (L.length : Int) (L.getD i default).sum
  have hIs : isAt seed L.length i (L.getD i default).sum = decide (i ∈ placesN seed (L.length : Int) (L.getD i default).sum) := rfl
  generalize placesN seed (L.length : Int) (L.getD i default).sum = PL at *
  have hCo := contInt_ty PL i (by omega)
  obtain ⟨g, off, cap, eP, eS, hsl⟩ : ∃ g off cap, sP = .slice (some ⟨g, off, none⟩) L.length cap ∧ SP = [g] ∧ SegL w17 4 1 g off L.length cap (B.map bvl) := by
    rcases h.pure.cases with ⟨_, h0, _⟩ | h
    · omega
    · exact h
  have hsL := h.tab.sl
  obtain ⟨p, hp⟩ : ∃ p, p = pureAt seed L i := ⟨_, rfl⟩
  rw [← hp] at ePA ⊢
  refine wp_mono (Q := fun e a w' => e = .normal ∧ a.defers = [] ∧ PeelMem w' gp seed sL sP bm s0 s1 L (B.set i p) S r0 r1 SL SP S0 S1 n ∧ Keeps SP w w') ?_ ?_
  · subst eP
    cases hk1 : (L.getD i default).ok with
    | true =>
      rw [hk1] at hF ePA
      rw [Bool.true_and, ← hok hk1, hIs] at ePA
      rw [← ePA] at hCo
      refine' region_ty 24 mixed (by kernel_rfl) hF ?_ ?_
      rotate_left
      · simp only [List.take_succ_cons, List.take_zero]
        repeat (first | exact Line.nil | ((first | refine' Line.cons rfl (.run rfl rfl ?_) ?_ | refine' Line.cons rfl (.yes rfl rfl rfl rfl ?_) ?_); (any_goals (first | exact cMove rfl rfl | exact cNilAt rfl rfl | exact cPeelP rfl (.t rfl) | exact cLoad1 (u := .slice (some ⟨g, off, none⟩) L.length cap) rfl (.t rfl) (pts_at _ _) Tryz.underlying175 rfl | exact cPeelT rfl (.t rfl) | exact cFldSx rfl (.t rfl) | exact cLoadU64 rfl (.t rfl) | exact cFldLx rfl (.t rfl) | exact cLoad1 (u := sL) rfl (.t rfl) (pts_at _ _) Tryz.underlying38 rfl | exact cLenH rfl (.l rfl hsL) (Ty.sl_isSl _ _ _) Tryz.underlying38 | exact cLoadSum rfl (.t rfl) Tryz.underlying28 sizeS | exact cCall3 rfl rfl rfl rfl hPp | exact cCallH2 rfl (.t rfl) (.t rfl) hCo | exact cIndexEx (k := i) (sz := 1) rfl rfl rfl Tryz.underlying175 sizeBool hi | exact cPickT rfl rfl rfl)); rotate_left))
      intro a w18 hF hb hN
      have hBs := hB.size
      replace hB := hB.trans (hb.mono hB.size)
      simp only [List.take_succ_cons, List.take_zero, List.drop_succ_cons, List.drop_zero] at hF hN ⊢
      dsimp only [ext, Option.getD] at hF
      replace hsl := hsl.below hb
      replace h := h.below hb
      have hsl0 := hsl
      have hB0 := hB
      refine tlStoreAtV (Δ := []) (k := i * 1) hF rfl rfl rfl rfl (hF.getEx (s := 42) rfl) hsl (by show i * 1 + 1 ≤ _; omega) sizeBool (by simp [Value.cells, Value.oneCell']) hF.nil rfl ?_
      intro w19 hF hsl hk8
      refine wpList_nil ?_
      rw [show (Value.bool p).cells.toList = [bvl p] from rfl, over_bool B _ (by omega)] at hsl
      exact ⟨rfl, hF.defers, peel_stored h hsl0 hk8 hsl eS rfl, by rw [eS]; exact (Keeps.of_below hB).trans hk8⟩
    | false =>
      rw [hk1] at hF ePA
      rw [Bool.false_and] at ePA
      subst ePA
      refine' region_ty 24 mixed (by kernel_rfl) hF ?_ ?_
      rotate_left
      · simp only [List.take_succ_cons, List.take_zero]
        repeat (first | exact Line.nil | (refine' Line.cons rfl (.no rfl rfl rfl rfl rfl rfl) ?_; rotate_left) | ((refine' Line.cons rfl (.run rfl rfl ?_) ?_); (any_goals (first | exact cMove rfl rfl | exact cNilAt rfl rfl | exact cPeelP rfl (.t rfl) | exact cLoad1 (u := .slice (some ⟨g, off, none⟩) L.length cap) rfl (.t rfl) (pts_at _ _) Tryz.underlying175 rfl | exact cIndexEx (k := i) (sz := 1) rfl rfl rfl Tryz.underlying175 sizeBool hi | exact cPickF rfl rfl rfl)); rotate_left))
      intro a w18 hF hb hN
      have hBs := hB.size
      replace hB := hB.trans (hb.mono hB.size)
      simp only [List.take_succ_cons, List.take_zero, List.drop_succ_cons, List.drop_zero] at hF hN ⊢
      dsimp only [ext, Option.getD] at hF
      replace hsl := hsl.below hb
      replace h := h.below hb
      have hsl0 := hsl
      have hB0 := hB
      refine tlStoreAtV (Δ := []) (k := i * 1) hF rfl rfl rfl rfl (hF.getEx (s := 42) rfl) hsl (by show i * 1 + 1 ≤ _; omega) sizeBool (by simp [Value.cells, Value.oneCell']) hF.nil rfl ?_
      intro w19 hF hsl hk8
      refine wpList_nil ?_
      rw [show (Value.bool false).cells.toList = [bvl false] from rfl, over_bool B _ (by omega)] at hsl
      exact ⟨rfl, hF.defers, peel_stored h hsl0 hk8 hsl eS rfl, by rw [eS]; exact (Keeps.of_below hB).trans hk8⟩
  rintro e a w' ⟨rfl, hd, h1, h2⟩
  exact ret0 rfl hd ⟨rfl, h1, h2⟩
end Go.Proofs.YtmefpnklgfhggaaGreatDoor

/- Which cells are pure, as a row. -/
namespace Go.Proofs.YtmefpnklgfhggaaGreatDoor
open Go.RowKit

def pureB (seed : Nat) (L : List Cl) : List Bool := (List.range L.length).map (pureAt seed L)
theorem pureB_len (seed : Nat) (L : List Cl) : (pureB seed L).length = L.length := by simp [pureB]
theorem pureB_get {seed : Nat} {L : List Cl} {j : Nat} (hj : j < L.length) : (pureB seed L)[j]? = some (pureAt seed L j) := by simp [pureB, hj]
theorem pureB_getD {seed : Nat} {L : List Cl} {j : Nat} (hj : j < L.length) : (pureB seed L).getD j false = pureAt seed L j := by simp [List.getD, pureB_get hj]
theorem pureAt_other {seed : Nat} {L : List Cl} {i j : Nat} (x : Sm) (n : Int) (hj : j < L.length) (h : ¬ i = j) : pureAt seed (tputAt L i x n) j = pureAt seed L j := by
  have e : (tputAt L i x n).getD j default = L.getD j default := by
    unfold tputAt
    rw [getD_set_eq _ _ hj, if_neg h]
  unfold pureAt
  rw [e, tputAt_len]
theorem pureB_set {seed : Nat} {L : List Cl} {i : Nat} (x : Sm) (n : Int) (hi : i < L.length) : (pureB seed L).set i (pureAt seed (tputAt L i x n) i) = pureB seed (tputAt L i x n) := by
  apply List.ext_getElem?
  intro j
  rw [List.getElem?_set, pureB_len]
  by_cases hj : j < L.length
  · rw [pureB_get (L := tputAt L i x n) (by rw [tputAt_len]; exact hj)]
    by_cases hij : i = j
    · subst hij; rw [if_pos rfl, if_pos hj]
    · rw [if_neg hij, pureB_get hj, pureAt_other x n hj hij]
  · have h1 : (pureB seed (tputAt L i x n))[j]? = none := List.getElem?_eq_none (by rw [pureB_len, tputAt_len]; omega)
    rw [h1, if_neg (by omega), List.getElem?_eq_none (by rw [pureB_len]; omega)]
theorem firstP_congr {p q : Nat → Bool} : ∀ (k j : Nat), (∀ i, j ≤ i → i < j + k → p i = q i) → firstP p j k = firstP q j k
  | 0, _, _ => rfl
  | k + 1, j, h => by
    unfold firstP
    rw [h j (by omega) (by omega), firstP_congr k (j + 1) fun i h1 h2 => h i (by omega) (by omega)]
theorem idx_pure (seed : Nat) (L : List Cl) : idxOf (fun j => decide ((pureB seed L).getD j false = true)) (pureB seed L).length = if nextI seed L < L.length then (nextI seed L : Int) else -1 := by
  unfold idxOf nextI
  rw [pureB_len, firstP_congr (q := pureAt seed L) L.length 0 fun i _ hi => by rw [pureB_getD (by omega)]; simp]
/-- The first i looked at. -/
def mixB (seed : Nat) (L : List Cl) (i : Nat) : List Bool := (pureB seed L).take i ++ List.replicate (L.length - i) false
theorem mixB_len {seed : Nat} {L : List Cl} {i : Nat} (hi : i ≤ L.length) : (mixB seed L i).length = L.length := by
  simp only [mixB, List.length_append, List.length_take, pureB_len, List.length_replicate]
  omega
theorem mixB_zero (seed : Nat) (L : List Cl) : mixB seed L 0 = List.replicate L.length false := by simp [mixB]
theorem mixB_all (seed : Nat) (L : List Cl) : mixB seed L L.length = pureB seed L := by
  unfold mixB
  rw [Nat.sub_self, List.replicate_zero, List.append_nil, List.take_of_length_le (by rw [pureB_len]; exact Nat.le_refl _)]
theorem mixB_set {seed : Nat} {L : List Cl} {i : Nat} (hi : i < L.length) : (mixB seed L i).set i (pureAt seed L i) = mixB seed L (i + 1) := by
  unfold mixB
  have hl : ((pureB seed L).take i).length = i := by rw [List.length_take, pureB_len]; omega
  rw [List.set_append, if_neg (by omega), hl, Nat.sub_self, show L.length - i = (L.length - (i + 1)) + 1 by omega, List.replicate_succ, List.set_cons_zero]
  have : (pureB seed L).take (i + 1) = (pureB seed L).take i ++ [pureAt seed L i] := by
    rw [List.take_add_one, pureB_get hi]; rfl
  rw [this, List.append_assoc]
  rfl
end Go.Proofs.YtmefpnklgfhggaaGreatDoor

/- Regions by types: one operation that acts (an append in place), beside others that look at no memory. -/
namespace Go.Proofs.YtmefpnklgfhggaaGreatDoor
open Go.RowKit

section
variable {P : Program} {w0 : World} {N : Nat} {a0 : Act}
/-- A region by an invariant of what is listed. -/
theorem region_inv {id : Nat} {Q : Exit → Act → World → Prop} {l : List Oper} {draw : Bool} (n : Nat) (hm : P.follows .mixedOrders = true) (hB : (regB l.toArray N n && tailB l.toArray n) = true) (I : Array Bool → Act → World → Prop)
    (start : ∀ w, Below w0.heap.size w0 w → I (Array.replicate l.toArray.size false) a0 w)
    (step : ∀ (listed : Array Bool) (a : Act) (w : World) (i : Nat) (o : Oper), I listed a w → listed.size = l.toArray.size → (∀ (j : Nat) (oj : Oper), l.toArray[j]? = some oj → listed.getD j false = true → ∀ e ∈ oj.after, Region.binds .any e = true → listed.getD e.on false = true) →
      i < n → l.toArray[i]? = some o → listed.getD i false = false → (∀ e ∈ o.after, Region.binds .any e = true → listed.getD e.on false = true) → ∀ (K : Act → World → Prop) (Q : Exit → Act → World → Prop), (∀ a' w', I (listed.setIfInBounds i true) a' w' → K a' w') →
      if Region.wanted o (yielded l.toArray a.tmps) then o.wp P a w K Q else K (a.put o.dst undef) w)
    (hQ : ∀ (listed : Array Bool) a w, I listed a w → (∀ i, i < n → listed.getD i false = true) → wpList P l.toArray Q (l.drop n) a w) : (Code.region id l.toArray draw).wp P Q a0 w0 := by
  rw [Bool.and_eq_true] at hB
  obtain ⟨hB, hT⟩ := hB
  have hsize : l.toArray.size = l.length := by simp
  have hnl : n ≤ l.toArray.size := by
    unfold tailB at hT
    split at hT
    · rename_i h; simp at h; simp [h]
    · simp only [Bool.and_eq_true, decide_eq_true_eq] at hT; omega
  have hlen : n = (l.take n).length := by simp at hnl ⊢; omega
  have hli : ∀ i, i < n → (l.take n)[i]? = l.toArray[i]? := fun i hi => by simp [hi]
  have hback : ∀ i o, i < n → l.toArray[i]? = some o → ∀ e ∈ o.after, Region.binds .any e = true → e.on < i := fun i o hi ho e he hb => by
    obtain ⟨o', d, ho', _, _, h, _⟩ := regB_at hB hi
    obtain rfl : o = o' := Option.some.inj (ho.symm.trans ho')
    exact h e he hb
  have fin : ∀ (listed : Array Bool) a w, I listed a w → (∀ i, i < n → listed.getD i false = true) → wpList P l.toArray Q (l.drop n) a w := hQ
  cases draw with
  | true =>
    have key : ∀ (f : Nat) (listed : Array Bool) (a : Act) (w : World), HeadInv .any l.toArray n listed → wanting n listed = f → I listed a w → wpAny P .any l.toArray Q (f + (l.toArray.size - n)) listed a w := by
      intro f
      induction f with
      | zero =>
        intro listed a w hH h0 hI
        have hall := wanting_zero h0
        have hdl : (l.drop n).length = l.toArray.size - n := by simp
        have e := all_listed hH hall hnl
        have hseq : Region.seqB .any l.toArray (l.toArray.size - n) n listed = true := by
          unfold tailB at hT
          split at hT
          · rename_i h
            have hz : n = l.toArray.size := by simpa using h
            have h2 : l.toArray.size - n = 0 := by omega
            rw [h2]
            simp only [Region.seqB, List.isEmpty_iff]
            unfold Region.ready
            rw [List.filter_eq_nil_iff]
            intro i hi
            have hi' := List.mem_range.1 hi
            have h3 := hall i (by omega)
            have hil : i < listed.size := by rw [hH.size]; exact hi'
            simp [Array.getD, hil] at h3 ⊢
            simp [h3]
          · simp only [Bool.and_eq_true] at hT
            rw [e]; exact hT.2
        have := wpAny_of_seq (md := .any) (Q' := Q) (l.drop n) n listed a w (fun j => by simp [List.getElem?_drop]) (by rw [hdl]; exact hseq) (fin listed a w hI hall)
        rw [Nat.zero_add]
        rwa [hdl] at this
      | succ f ih =>
        intro listed a w hH h0 hI
        rw [show f + 1 + (l.toArray.size - n) = (f + (l.toArray.size - n)) + 1 by omega]
        have hex : ∃ i, i < n ∧ listed.getD i true = false := by
          refine Classical.byContradiction fun hno => ?_
          have hz : wanting n listed = 0 := by
            unfold wanting
            rw [List.length_eq_zero_iff, List.filter_eq_nil_iff]
            intro i hi
            have hi' := List.mem_range.1 hi
            have hl : i < listed.size := by rw [hH.size]; omega
            have h1 : ¬ listed.getD i true = false := fun h => hno ⟨i, hi', h⟩
            simp [Array.getD, hl] at h1 ⊢
            exact h1
          omega
        obtain ⟨i0, hi0, hun0⟩ := hex
        refine ⟨fun hr => ?_, fun i hi => ?_⟩
        · exfalso
          have := ready_head hback hnl hH.size hr i0 hi0
          rw [getD_both hun0] at this
          cases this
        · obtain ⟨h1, o, ho, h2⟩ := mem_ready.1 hi
          have hin : i < n := Nat.lt_of_not_le fun h => by
            have hio := (Array.getElem?_eq_some_iff.1 ho).1
            unfold tailB at hT
            split at hT
            · rename_i h'; simp at h'; omega
            · simp only [Bool.and_eq_true, decide_eq_true_eq] at hT
              exact tail_waits hT.1.1.2 hT.1.2 hT.1.1.1 hH _ i0 rfl hi0 hun0 i h hi
          have hil : i < listed.size := by rw [hH.size]; omega
          have h3 := step listed a w i o hI hH.size hH.closed hin ho (getD_both h1) h2 (wpAny P .any l.toArray Q (f + (l.toArray.size - n)) (listed.setIfInBounds i true)) Q (fun a' w' hI' => by
            refine ih _ a' w' (hH.set hi hin) ?_ hI'
            have := wanting_set hin hil (getD_both h1)
            omega)
          unfold wpOp
          simp only [ho]
          split
          · rename_i hw
            rw [if_pos hw] at h3
            exact .inl h3
          · rename_i hw
            rw [if_neg hw] at h3
            exact h3
    have inv0 : HeadInv .any l.toArray n (Array.replicate l.toArray.size false) :=
      ⟨by simp, fun j oj _ hl => (by rw [getD_replicate_false] at hl; cases hl), fun t _ ht => getD_in (by simpa using ht) (getD_replicate_false _ _)⟩
    have h0 : wanting n (Array.replicate l.toArray.size false) = n := by
      unfold wanting
      rw [List.filter_eq_self.2 (fun i _ => by rw [getD_replicate_false]; rfl), List.length_range]
    refine wp_region_any hm ?_
    have := key n _ a0 w0.drew inv0 h0 (start w0.drew (Below.refl _ _).drew)
    rw [show n + (l.toArray.size - n) = l.toArray.size by omega] at this
    exact this
  | false =>
    have key : ∀ (f k : Nat) (a : Act) (w : World), k + f = n → I ((List.replicate k true ++ List.replicate (l.toArray.size - k) false).toArray) a w → wpList P l.toArray Q (l.drop k) a w := by
      intro f
      induction f with
      | zero =>
        intro k a w hk hI
        obtain rfl : k = n := by omega
        refine fin _ a w hI (fun i hi => ?_)
        simp [Array.getD, hi]
        omega
      | succ f ih =>
        intro k a w hk hI
        have hkn : k < n := by omega
        have hkl : k < l.length := by omega
        have hdrop : l.drop k = l[k] :: l.drop (k + 1) := by rw [List.drop_eq_getElem_cons hkl]
        have getD_k : ∀ m j, m ≤ l.toArray.size → (List.replicate m true ++ List.replicate (l.toArray.size - m) false).toArray.getD j false = decide (j < m) := fun m j hm => by
          by_cases hj : j < m
          · simp [Array.getD, hj]; omega
          · simp [Array.getD, List.getElem_append, hj]
        have ho : l.toArray[k]? = some l[k] := by simp [hkl]
        have hset : (List.replicate k true ++ List.replicate (l.toArray.size - k) false).toArray.setIfInBounds k true = (List.replicate (k + 1) true ++ List.replicate (l.toArray.size - (k + 1)) false).toArray := by
          apply Array.ext_getElem?
          intro j
          rw [show l.toArray.size - k = (l.toArray.size - (k + 1)) + 1 by omega, List.replicate_succ, List.replicate_succ']
          simp only [List.setIfInBounds_toArray, List.getElem?_toArray, List.append_assoc, List.singleton_append]
          rw [List.set_append_right _ _ (by simp)]
          simp
        rw [hdrop]
        refine wpList_step fun K hK => ?_
        refine step _ a w k _ hI (by simp; omega) (fun j oj hj hl e he hb => ?_) hkn ho (by rw [getD_k k k (by omega)]; simp) (fun e he hb => ?_) K Q (fun a' w' hI' => hK a' w' (ih (k + 1) a' w' (by omega) (by rw [← hset]; exact hI')))
        · rw [getD_k k _ (by omega)] at hl ⊢
          simp only [decide_eq_true_eq] at hl ⊢
          have := hback j oj (by omega) hj e he hb
          omega
        · rw [getD_k k _ (by omega)]
          simp only [decide_eq_true_eq]
          exact hback k _ hkn ho e he hb
    refine wp_region_lit ?_
    have := key n 0 a0 w0 (by omega) (by
      have e : (List.replicate 0 true ++ List.replicate (l.toArray.size - 0) false).toArray = Array.replicate l.toArray.size false := by simp
      rw [e]
      exact start w0 (Below.refl _ _))
    simpa using this
end
/-- The operations for which the p-th waits. -/
def ancB (ops : Array Oper) (p : Nat) (A : List Nat) : Bool := A.all fun i => i == p || A.any fun j => decide (i < j) && decide (j ≤ p) && Region.waitsFor .any ops j i
theorem anc_listed {ops : Array Oper} {p : Nat} {A : List Nat} {listed : Array Bool} (hA : ancB ops p A = true) (hcl : ∀ (j : Nat) (oj : Oper), ops[j]? = some oj → listed.getD j false = true → ∀ e ∈ oj.after, Region.binds .any e = true → listed.getD e.on false = true) (hp : listed.getD p false = true) : ∀ (m i : Nat), i ∈ A → p ≤ i + m → listed.getD i false = true := by
  intro m
  induction m with
  | zero =>
    intro i hi hm
    have h1 := List.all_eq_true.1 hA i hi
    simp only [Bool.or_eq_true, beq_iff_eq, List.any_eq_true, Bool.and_eq_true, decide_eq_true_eq] at h1
    rcases h1 with rfl | ⟨j, _, ⟨h2, h3⟩, _⟩
    · exact hp
    · omega
  | succ m ih =>
    intro i hi hm
    have h1 := List.all_eq_true.1 hA i hi
    simp only [Bool.or_eq_true, beq_iff_eq, List.any_eq_true, Bool.and_eq_true, decide_eq_true_eq] at h1
    rcases h1 with rfl | ⟨j, hj, ⟨h2, h3⟩, h4⟩
    · exact hp
    · have h5 := ih j hj (by omega)
      obtain ⟨oj, hoj, e, he, hb, hon⟩ := Region.waitsFor_spec h4
      have h6 := hcl j oj hoj h5 e he hb
      rwa [hon] at h6
/-- An operation that looks at no memory. -/
def FloatOk (P : Program) (Γ : Ctx) (o : Oper) (V : Ty) : Prop := o.guard = none ∧ ∃ v, V = Ty.ex v ∧ ∀ (a : Act) (w : World), (∀ (x : Operand) (u : Value), x ∈ o.op.operands.toList → OpT Γ x (Ty.ex u) → a.eval x = u) → (execOp a.eval o).run P w = .ok (.value v) w
/-- An operation that acts: what then holds of its value and the world. -/
def OpEv (P : Program) (w0 : World) (Γ : Ctx) (o : Oper) (R : Value → World → Prop) : Prop :=
  ∀ (a : Act) (w : World) (K : Act → World → Prop) (Q : Exit → Act → World → Prop), Below w0.heap.size w0 w →
    (∀ (s : Nat) (τ : Ty), s ∈ Oper.reads o → look Γ s = some τ → ∃ v, a.tmps[s]? = some v ∧ τ.p w v) →
    (∀ v w', R v w' → K (a.put o.dst v) w') → o.wp P a w K Q
inductive LineE (P : Program) (ops : Array Oper) (w0 : World) (p : Nat) (A : List Nat) (R : Value → World → Prop) : Nat → Ctx → List Oper → List Ty → Prop
  | nil {i : Nat} {Γ : Ctx} : LineE P ops w0 p A R i Γ [] []
  | cons {i : Nat} {Γ : Ctx} {d : Nat} {o : Oper} {V : Ty} {os : List Oper} {Vs : List Ty} (hi : Nat.beq i p = false) (hA : A.contains i = true) (hd : o.dst = some d) (h : Fact P ops w0 Γ o V) (tl : LineE P ops w0 p A R (i + 1) ((d, V) :: Γ) os Vs) : LineE P ops w0 p A R i Γ (o :: os) (V :: Vs)
  | float {i : Nat} {Γ : Ctx} {d : Nat} {o : Oper} {V : Ty} {os : List Oper} {Vs : List Ty} (hi : Nat.beq i p = false) (hd : o.dst = some d) (h : FloatOk P Γ o V) (tl : LineE P ops w0 p A R (i + 1) ((d, V) :: Γ) os Vs) : LineE P ops w0 p A R i Γ (o :: os) (V :: Vs)
  | event {i : Nat} {Γ : Ctx} {d : Nat} {o : Oper} {os : List Oper} {Vs : List Ty} (hi : Nat.beq i p = true) (hd : o.dst = some d) (hg : o.guard = none) (h : OpEv P w0 Γ o R) (tl : LineE P ops w0 p A R (i + 1) ((d, Ty.any) :: Γ) os Vs) : LineE P ops w0 p A R i Γ (o :: os) (Ty.any :: Vs)
section
variable {P : Program} {ops : Array Oper} {w0 : World} {p : Nat} {A : List Nat} {R : Value → World → Prop} {Γ : Ctx}
def LineE.Says (P : Program) (ops : Array Oper) (w0 : World) (p : Nat) (A : List Nat) (R : Value → World → Prop) (i : Nat) (Γ : Ctx) (o : Oper) (V : Ty) : Prop :=
  (i ≠ p ∧ A.contains i = true ∧ Fact P ops w0 Γ o V) ∨ (i ≠ p ∧ FloatOk P Γ o V) ∨ (i = p ∧ V = Ty.any ∧ o.guard = none ∧ OpEv P w0 Γ o R)
theorem look_back {i : Nat} {Γ Γi : Ctx} {d : Nat} {V : Ty} {o : Oper} {os : List Oper} {Vs : List Ty} (hd : o.dst = some d)
    (h : ∀ (s : Nat) (τ : Ty), look Γi s = some τ → (∃ (j : Nat) (oj : Oper), j < i ∧ os[j]? = some oj ∧ oj.dst = some s ∧ Vs[j]? = some τ) ∨ ((∀ (j : Nat) (oj : Oper), j < i → os[j]? = some oj → oj.dst ≠ some s) ∧ look ((d, V) :: Γ) s = some τ)) :
    ∀ (s : Nat) (τ : Ty), look Γi s = some τ → (∃ (j : Nat) (oj : Oper), j < i + 1 ∧ (o :: os)[j]? = some oj ∧ oj.dst = some s ∧ (V :: Vs)[j]? = some τ) ∨ ((∀ (j : Nat) (oj : Oper), j < i + 1 → (o :: os)[j]? = some oj → oj.dst ≠ some s) ∧ look Γ s = some τ) := by
  intro s τ hl
  rcases h s τ hl with ⟨j, oj, hj, hoj, hds, hVj⟩ | ⟨hno, hlk⟩
  · exact .inl ⟨j + 1, oj, by omega, by simpa using hoj, hds, by simpa using hVj⟩
  · by_cases hds : d = s
    · subst hds
      rw [look_same] at hlk
      injection hlk with hlk
      subst hlk
      exact .inl ⟨0, o, by omega, rfl, hd, rfl⟩
    · rw [look_ne _ _ hds] at hlk
      refine .inr ⟨fun j oj hj hoj => ?_, hlk⟩
      cases j with
      | zero =>
        simp only [List.getElem?_cons_zero, Option.some.injEq] at hoj
        subst hoj
        rw [hd]
        simpa using hds
      | succ j => exact hno j oj (by omega) (by simpa using hoj)
theorem beq_no {i p : Nat} (h : Nat.beq i p = false) : i ≠ p := fun e => by subst e; simp at h
theorem LineE.at_ {m : Nat} {l : List Oper} {Vs : List Ty} (h : LineE P ops w0 p A R m Γ l Vs) : ∀ (i : Nat) (o : Oper), l[i]? = some o → ∃ V Γi, Vs[i]? = some V ∧ LineE.Says P ops w0 p A R (m + i) Γi o V ∧
    ∀ (s : Nat) (τ : Ty), look Γi s = some τ → (∃ (j : Nat) (oj : Oper), j < i ∧ l[j]? = some oj ∧ oj.dst = some s ∧ Vs[j]? = some τ) ∨ ((∀ (j : Nat) (oj : Oper), j < i → l[j]? = some oj → oj.dst ≠ some s) ∧ look Γ s = some τ) := by
  have base : ∀ {Γ : Ctx} {o : Oper} {os : List Oper} {V : Ty} {Vs : List Ty} (s : Nat) (τ : Ty), look Γ s = some τ → (∃ (j : Nat) (oj : Oper), j < 0 ∧ (o :: os)[j]? = some oj ∧ oj.dst = some s ∧ (V :: Vs)[j]? = some τ) ∨ ((∀ (j : Nat) (oj : Oper), j < 0 → (o :: os)[j]? = some oj → oj.dst ≠ some s) ∧ look Γ s = some τ) := fun s τ hl => .inr ⟨fun j oj hj => absurd hj (Nat.not_lt_zero _), hl⟩
  induction h with
  | nil => intro i o h; simp at h
  | @cons m Γ d o V os Vs hi hA hd hF t ih =>
    intro i o' ho'
    cases i with
    | zero =>
      simp only [List.getElem?_cons_zero, Option.some.injEq] at ho'
      subst ho'
      exact ⟨V, Γ, rfl, .inl ⟨by simpa using beq_no hi, by simpa using hA, hF⟩, base⟩
    | succ i =>
      simp only [List.getElem?_cons_succ] at ho'
      obtain ⟨V', Γi, h1, h2, h3⟩ := ih i o' ho'
      exact ⟨V', Γi, by simpa using h1, by rw [show m + (i + 1) = m + 1 + i by omega]; exact h2, look_back hd h3⟩
  | @float m Γ d o V os Vs hi hd hF t ih =>
    intro i o' ho'
    cases i with
    | zero =>
      simp only [List.getElem?_cons_zero, Option.some.injEq] at ho'
      subst ho'
      exact ⟨V, Γ, rfl, .inr (.inl ⟨by simpa using beq_no hi, hF⟩), base⟩
    | succ i =>
      simp only [List.getElem?_cons_succ] at ho'
      obtain ⟨V', Γi, h1, h2, h3⟩ := ih i o' ho'
      exact ⟨V', Γi, by simpa using h1, by rw [show m + (i + 1) = m + 1 + i by omega]; exact h2, look_back hd h3⟩
  | @event m Γ d o os Vs hi hd hg hF t ih =>
    intro i o' ho'
    cases i with
    | zero =>
      simp only [List.getElem?_cons_zero, Option.some.injEq] at ho'
      subst ho'
      exact ⟨Ty.any, Γ, rfl, .inr (.inr ⟨by simpa using Nat.eq_of_beq_eq_true hi, rfl, hg, hF⟩), base⟩
    | succ i =>
      simp only [List.getElem?_cons_succ] at ho'
      obtain ⟨V', Γi, h1, h2, h3⟩ := ih i o' ho'
      exact ⟨V', Γi, by simpa using h1, by rw [show m + (i + 1) = m + 1 + i by omega]; exact h2, look_back hd h3⟩
theorem LineE.ext_look {m : Nat} {l : List Oper} {Vs : List Ty} (h : LineE P ops w0 p A R m Γ l Vs) : ∀ (s : Nat) (τ : Ty), look (ext Γ l Vs) s = some τ →
    (∃ (j : Nat) (oj : Oper), l[j]? = some oj ∧ oj.dst = some s ∧ Vs[j]? = some τ) ∨ ((∀ (j : Nat) (oj : Oper), l[j]? = some oj → oj.dst ≠ some s) ∧ look Γ s = some τ) := by
  have go : ∀ {Γ : Ctx} {d : Nat} {V : Ty} {o : Oper} {os : List Oper} {Vs : List Ty} (_ : o.dst = some d) (_ : ∀ (s : Nat) (τ : Ty), look (ext ((d, V) :: Γ) os Vs) s = some τ → (∃ (j : Nat) (oj : Oper), os[j]? = some oj ∧ oj.dst = some s ∧ Vs[j]? = some τ) ∨ ((∀ (j : Nat) (oj : Oper), os[j]? = some oj → oj.dst ≠ some s) ∧ look ((d, V) :: Γ) s = some τ)) (s : Nat) (τ : Ty), look (ext Γ (o :: os) (V :: Vs)) s = some τ → (∃ (j : Nat) (oj : Oper), (o :: os)[j]? = some oj ∧ oj.dst = some s ∧ (V :: Vs)[j]? = some τ) ∨ ((∀ (j : Nat) (oj : Oper), (o :: os)[j]? = some oj → oj.dst ≠ some s) ∧ look Γ s = some τ) := by
    intro Γ d V o os Vs hd ih s τ hl
    have e : ext Γ (o :: os) (V :: Vs) = ext ((d, V) :: Γ) os Vs := by simp [ext, hd]
    rw [e] at hl
    rcases ih s τ hl with ⟨j, oj, hoj, hds, hVj⟩ | ⟨hno, hlk⟩
    · exact .inl ⟨j + 1, oj, by simpa using hoj, hds, by simpa using hVj⟩
    · by_cases hds : d = s
      · subst hds
        rw [look_same] at hlk
        injection hlk with hlk
        subst hlk
        exact .inl ⟨0, o, rfl, hd, rfl⟩
      · rw [look_ne _ _ hds] at hlk
        refine .inr ⟨fun j oj hoj => ?_, hlk⟩
        cases j with
        | zero =>
          simp only [List.getElem?_cons_zero, Option.some.injEq] at hoj
          subst hoj
          rw [hd]
          simpa using hds
        | succ j => exact hno j oj (by simpa using hoj)
  induction h with
  | nil => intro s τ hl; exact .inr ⟨fun j oj h => by simp at h, hl⟩
  | cons hi hA hd hF t ih => exact go hd ih
  | float hi hd hF t ih => exact go hd ih
  | event hi hd hg hF t ih => exact go hd ih
end
/-- Of the operations that are listed. -/
structure TInvE (N n p : Nat) (R : Value → World → Prop) (l : List Oper) (Vs : List Ty) (a0 : Act) (w0 : World) (listed : Array Bool) (a : Act) (w : World) : Prop where
  defers : a.defers = []
  size : a.tmps.size = N
  out : ∀ s, (∀ (j : Nat) (oj : Oper), j < n → listed.getD j false = true → l[j]? = some oj → oj.dst ≠ some s) → a.tmps[s]? = a0.tmps[s]?
  exs : ∀ (j : Nat) (oj : Oper) (d : Nat) (v : Value), j < n → listed.getD j false = true → l[j]? = some oj → oj.dst = some d → Vs[j]? = some (Ty.ex v) → a.tmps[d]? = some v
  pre : listed.getD p false = false → Below w0.heap.size w0 w ∧ ∀ (j : Nat) (oj : Oper) (d : Nat) (V : Ty), j < n → listed.getD j false = true → l[j]? = some oj → oj.dst = some d → Vs[j]? = some V → ∃ v, a.tmps[d]? = some v ∧ V.p w v
  post : listed.getD p false = true → ∃ op d v, l[p]? = some op ∧ op.dst = some d ∧ a.tmps[d]? = some v ∧ R v w
theorem ty_ex_inj (w : World) {v u : Value} (h : Ty.ex v = Ty.ex u) : v = u := by
  have := congrArg (fun τ : Ty => τ.p w v) h
  exact this.mp rfl
theorem any_ne_ex (w : World) (v : Value) : Ty.any ≠ Ty.ex v := fun h => by
  have h1 := (congrArg (fun τ : Ty => τ.p w (.bool true)) h).mp trivial
  have h2 := (congrArg (fun τ : Ty => τ.p w (.bool false)) h).mp trivial
  have h1 : Value.bool true = v := h1
  have h2 : Value.bool false = v := h2
  rw [← h2] at h1
  cases h1
section
variable {P : Program} {w0 : World} {p : Nat} {A : List Nat} {R : Value → World → Prop} {Γ : Ctx} {N n : Nat} {l : List Oper} {Vs : List Ty} {a0 : Act} {ops : Array Oper}
theorem TInvE.start (hF : Fr N Γ a0 w0) {w : World} (hb : Below w0.heap.size w0 w) (m : Nat) : TInvE N n p R l Vs a0 w0 (Array.replicate m false) a0 w :=
  ⟨hF.defers, hF.size, fun _ _ => rfl, fun j _ _ _ _ h => (by rw [getD_replicate_false] at h; cases h), fun _ => ⟨hb, fun j _ _ _ _ h => (by rw [getD_replicate_false] at h; cases h)⟩, fun h => (by rw [getD_replicate_false] at h; cases h)⟩
theorem TInvE.step (hpn : p < n) (hB : regB ops N n = true) (hAn : ancB ops p A = true) (hl : ∀ i, i < n → l[i]? = ops[i]?) (hL : LineE P ops w0 p A R 0 Γ l Vs) (hF : Fr N Γ a0 w0) {listed : Array Bool} {a : Act} {w : World} (hI : TInvE N n p R l Vs a0 w0 listed a w)
    (hsz : listed.size = ops.size) (hcl : ∀ (j : Nat) (oj : Oper), ops[j]? = some oj → listed.getD j false = true → ∀ e ∈ oj.after, Region.binds .any e = true → listed.getD e.on false = true)
    {i : Nat} {o : Oper} (hi : i < n) (ho : ops[i]? = some o) (hun : listed.getD i false = false) (hdep : ∀ e ∈ o.after, Region.binds .any e = true → listed.getD e.on false = true) (K : Act → World → Prop) (Q : Exit → Act → World → Prop)
    (hK : ∀ a' w', TInvE N n p R l Vs a0 w0 (listed.setIfInBounds i true) a' w' → K a' w') :
    if Region.wanted o (yielded ops a.tmps) then o.wp P a w K Q else K (a.put o.dst undef) w := by
  have hli : l[i]? = some o := (hl i hi).trans ho
  obtain ⟨V, Γi, hV, hFa, hlk⟩ := hL.at_ i o hli
  rw [Nat.zero_add] at hFa
  obtain ⟨o', d, ho', hd, hdN, _, hoth⟩ := regB_at hB hi
  obtain rfl : o = o' := Option.some.inj (ho.symm.trans ho')
  have wf : ∀ {p q : Nat} {op : Oper}, ops[p]? = some op → Region.waitsFor .any ops p q = true → ∃ e ∈ op.after, Region.binds .any e = true ∧ e.on = q := fun {p q op} hp hw => by
    obtain ⟨oj, hoj, e, he, hb, hon⟩ := Region.waitsFor_spec hw
    obtain rfl : op = oj := Option.some.inj (hp.symm.trans hoj)
    exact ⟨e, he, hb, hon⟩
  have hilt : i < listed.size := by rw [hsz]; exact (Array.getElem?_eq_some_iff.1 ho).1
  -- slots from before the region, and slots of earlier operations
  have hold : ∀ {s : Nat} {τ : Ty}, s ∈ o.looksAt ops → look Γi s = some τ → (∃ (j : Nat) (oj : Oper), j < n ∧ listed.getD j false = true ∧ l[j]? = some oj ∧ oj.dst = some s ∧ Vs[j]? = some τ) ∨ (a.tmps[s]? = a0.tmps[s]? ∧ look Γ s = some τ) := by
    intro s τ hs hls
    rcases hlk s τ hls with ⟨j, oj, hj, hoj, hds, hVj⟩ | ⟨hno, hl0⟩
    · have hjn : j < n := by omega
      have hoj' : ops[j]? = some oj := (hl j hjn).symm.trans hoj
      obtain ⟨oj2, dj, hoj2, hdj, _, _, hothj⟩ := regB_at hB hjn
      obtain rfl : oj = oj2 := Option.some.inj (hoj'.symm.trans hoj2)
      obtain rfl : dj = s := Option.some.inj (hdj.symm.trans hds)
      have h1 := ((hothj i o hi ho (by omega)).2 hs).1 hj
      obtain ⟨e, he, hb, hon⟩ := wf ho h1
      have h2 := hdep e he hb
      rw [hon] at h2
      exact .inl ⟨j, oj, hjn, h2, hoj, hdj, hVj⟩
    · refine .inr ⟨hI.out s (fun k ok hk hlk' hok hdk => ?_), hl0⟩
      have hok' : ops[k]? = some ok := (hl k hk).symm.trans hok
      have hki : k ≠ i := fun h => by subst h; rw [hun] at hlk'; cases hlk'
      by_cases hlt : k < i
      · exact hno k ok hlt hok hdk
      · obtain ⟨ok2, dk, hok2, hdk2, _, _, hothk⟩ := regB_at hB hk
        obtain rfl : ok = ok2 := Option.some.inj (hok'.symm.trans hok2)
        obtain rfl : dk = s := Option.some.inj (hdk2.symm.trans hdk)
        have h1 := ((hothk i o hi ho (Ne.symm hki)).2 hs).2 (by omega)
        obtain ⟨e, he, hb, hon⟩ := wf hok' h1
        have h2 := hcl k ok hok' hlk' e he hb
        rw [hon, hun] at h2
        cases h2
  have hseesP : listed.getD p false = false → Sees ops Γi o a w := by
    intro hp s τ hs hls
    rcases hold hs hls with ⟨j, oj, hj, hlj, hoj, hdj, hVj⟩ | ⟨h1, h2⟩
    · exact (hI.pre hp).2 j oj s τ hj hlj hoj hdj hVj
    · obtain ⟨v, hv1, hv2⟩ := hF.val s τ h2
      exact ⟨v, h1.trans hv1, τ.below hv2 (hI.pre hp).1⟩
  have hex : ∀ {s : Nat} {u : Value}, s ∈ o.looksAt ops → look Γi s = some (Ty.ex u) → a.tmps[s]? = some u := by
    intro s u hs hls
    rcases hold hs hls with ⟨j, oj, hj, hlj, hoj, hdj, hVj⟩ | ⟨h1, h2⟩
    · exact hI.exs j oj s u hj hlj hoj hdj hVj
    · obtain ⟨v, hv1, hv2⟩ := hF.val s _ h2
      have hv2 : v = u := hv2
      subst hv2
      exact h1.trans hv1
  have hdne : ∀ (j : Nat) (oj : Oper) (dj : Nat), j < n → j ≠ i → l[j]? = some oj → oj.dst = some dj → d ≠ dj := fun j oj dj hj hne hoj hdj h => by
    subst h
    exact (hoth j oj hj ((hl j hj).symm.trans hoj) hne).1 hdj
  have near : ∀ v : Value, (a.put (some d) v).tmps[d]? = some v := fun v => by
    simp only [Act.put]
    rw [Array.getElem?_setIfInBounds_self, if_pos (by rw [hI.size]; exact hdN)]
  have far : ∀ (v : Value) (j : Nat) (oj : Oper) (dj : Nat), j < n → j ≠ i → l[j]? = some oj → oj.dst = some dj → (a.put (some d) v).tmps[dj]? = a.tmps[dj]? := fun v j oj dj hj hji hoj hdj => by
    simp only [Act.put]
    rw [Array.getElem?_setIfInBounds_ne (hdne j oj dj hj hji hoj hdj)]
  have hout : ∀ (v : Value) (s : Nat), (∀ (j : Nat) (oj : Oper), j < n → (listed.setIfInBounds i true).getD j false = true → l[j]? = some oj → oj.dst ≠ some s) → (a.put (some d) v).tmps[s]? = a0.tmps[s]? := fun v s hs => by
    have hds : d ≠ s := fun h => hs i o hi (by simp [Array.getD, hilt]) hli (by rw [hd, h])
    simp only [Act.put]
    rw [Array.getElem?_setIfInBounds_ne hds]
    refine hI.out s (fun j oj hj hlj hoj => ?_)
    refine hs j oj hj ?_ hoj
    by_cases hij : i = j
    · subst hij; rw [hun] at hlj; cases hlj
    · rw [getD_set_ne false hij]; exact hlj
  have hexs : ∀ (u : Value), (∀ v, V = Ty.ex v → u = v) → ∀ (j : Nat) (oj : Oper) (dj : Nat) (v : Value), j < n → (listed.setIfInBounds i true).getD j false = true → l[j]? = some oj → oj.dst = some dj → Vs[j]? = some (Ty.ex v) → (a.put (some d) u).tmps[dj]? = some v := fun u hu j oj dj v hj hlj hoj hdj hVj => by
    by_cases hij : i = j
    · subst hij
      obtain rfl : o = oj := Option.some.inj (hli.symm.trans hoj)
      obtain rfl : d = dj := Option.some.inj (hd.symm.trans hdj)
      rw [near, hu v (Option.some.inj (hV.symm.trans hVj))]
    · rw [getD_set_ne false hij] at hlj
      rw [far u j oj dj hj (Ne.symm hij) hoj hdj]
      exact hI.exs j oj dj v hj hlj hoj hdj hVj
  have hsz2 : ∀ v : Value, (a.put (some d) v).tmps.size = N := fun v => by simp only [Act.put]; simpa using hI.size
  -- the p-th stays as it was
  have hpost : ∀ (v : Value) (w' : World), i ≠ p → w' = w → (listed.setIfInBounds i true).getD p false = true → ∃ op d' v', l[p]? = some op ∧ op.dst = some d' ∧ (a.put (some d) v).tmps[d']? = some v' ∧ R v' w' := fun v w' hip hw hlp => by
    subst hw
    rw [getD_set_ne false hip] at hlp
    obtain ⟨op, d', v', h1, h2, h3, h4⟩ := hI.post hlp
    refine ⟨op, d', v', h1, h2, ?_, h4⟩
    rw [far v p op d' hpn (Ne.symm hip) h1 h2]
    exact h3
  rcases hFa with ⟨hip, hin, hFc⟩ | ⟨hip, hg, v, rfl, hrun⟩ | ⟨hip, rfl, hg, hE⟩
  · have hpf : listed.getD p false = false := by
      cases hp : listed.getD p false with
      | false => rfl
      | true =>
        have := anc_listed hAn hcl hp p i (by simpa using hin) (by omega)
        rw [hun] at this
        cases this
    obtain ⟨hbl, hvals⟩ := hI.pre hpf
    have hpf' : (listed.setIfInBounds i true).getD p false = false := by rw [getD_set_ne false hip]; exact hpf
    refine hFc.at_work hbl (hseesP hpf) K Q (fun u w' hv hb _ => hK _ _ ?_)
    rw [hd]
    refine ⟨hI.defers, hsz2 u, hout u, hexs u fun v e => by subst e; exact hv, fun _ => ⟨hbl.trans (hb.mono hbl.size), fun j oj dj Vj hj hlj hoj hdj hVj => ?_⟩, fun h => by rw [hpf'] at h; cases h⟩
    by_cases hij : i = j
    · subst hij
      obtain rfl : o = oj := Option.some.inj (hli.symm.trans hoj)
      obtain rfl : d = dj := Option.some.inj (hd.symm.trans hdj)
      obtain rfl : V = Vj := Option.some.inj (hV.symm.trans hVj)
      exact ⟨u, near u, hv⟩
    · rw [getD_set_ne false hij] at hlj
      obtain ⟨u', h1, h2⟩ := hvals j oj dj Vj hj hlj hoj hdj hVj
      exact ⟨u', (far u j oj dj hj (Ne.symm hij) hoj hdj).trans h1, Vj.below h2 hb⟩
  · rw [if_pos (by simp [Region.wanted, hg])]
    have hr := hrun a w fun x u hx hu => by
      cases x with
      | tmp s =>
        have h := hex (s := s) (u := u) (by unfold Oper.looksAt; exact List.mem_append_left _ (List.mem_filterMap.2 ⟨_, hx, rfl⟩)) hu
        simp [Act.eval, Array.getD_eq_getD_getElem?, h]
      | const c => have h : c = u := ty_ex_inj w hu; simp [Act.eval, h]
      | func f => have h := ty_ex_inj w hu; simp [Act.eval, ← h]
      | global g => have h := ty_ex_inj w hu; simp [Act.eval, ← h]
    unfold Oper.wp
    simp only [hr]
    refine hK _ _ ?_
    rw [hd]
    refine ⟨hI.defers, hsz2 v, hout v, hexs v fun v' e => ty_ex_inj w e, fun h => ?_, hpost v w hip rfl⟩
    rw [getD_set_ne false hip] at h
    obtain ⟨hbl, hvals⟩ := hI.pre h
    refine ⟨hbl, fun j oj dj Vj hj hlj hoj hdj hVj => ?_⟩
    by_cases hij : i = j
    · subst hij
      obtain rfl : o = oj := Option.some.inj (hli.symm.trans hoj)
      obtain rfl : d = dj := Option.some.inj (hd.symm.trans hdj)
      obtain rfl : Ty.ex v = Vj := Option.some.inj (hV.symm.trans hVj)
      exact ⟨v, near v, rfl⟩
    · rw [getD_set_ne false hij] at hlj
      obtain ⟨u', h1, h2⟩ := hvals j oj dj Vj hj hlj hoj hdj hVj
      exact ⟨u', (far v j oj dj hj (Ne.symm hij) hoj hdj).trans h1, h2⟩
  · subst hip
    obtain ⟨hbl, hvals⟩ := hI.pre hun
    rw [if_pos (by simp [Region.wanted, hg])]
    refine hE a w K Q hbl (fun s τ hr hls => hseesP hun s τ (reads_looksAt hr) hls) fun v w' hR => hK _ _ ?_
    rw [hd]
    refine ⟨hI.defers, hsz2 v, hout v, fun j oj dj v' hj hlj hoj hdj hVj => ?_, fun h => ?_, fun _ => ⟨o, d, v, hli, hd, near v, hR⟩⟩
    · by_cases hij : i = j
      · subst hij
        have e : Ty.any = Ty.ex v' := Option.some.inj (hV.symm.trans hVj)
        exact absurd e (any_ne_ex w v')
      · rw [getD_set_ne false hij] at hlj
        exact (far v j oj dj hj (Ne.symm hij) hoj hdj).trans (hI.exs j oj dj v' hj hlj hoj hdj hVj)
    · have : (listed.setIfInBounds i true).getD i false = true := by simp [Array.getD, hilt]
      rw [this] at h
      cases h
end
section
variable {P : Program} {w0 : World} {p : Nat} {A : List Nat} {R : Value → World → Prop} {Γ : Ctx} {N : Nat} {Vs : List Ty} {a0 : Act}
/-- **A region with one operation that acts.** -/
theorem region_ev {id dp : Nat} {Q : Exit → Act → World → Prop} {l : List Oper} {draw : Bool} (n p : Nat) (A : List Nat) (R : Value → World → Prop) (hm : P.follows .mixedOrders = true) (hB : (regB l.toArray N n && tailB l.toArray n && ancB l.toArray p A && decide (p < n)) = true) (hdp : slotOf l.toArray p = some dp) (hF : Fr N Γ a0 w0)
    (hL : LineE P l.toArray w0 p A R 0 Γ (l.take n) Vs)
    (hQ : ∀ a w, a.tmps.size = N → a.defers = [] → ∀ v, a.tmps[dp]? = some v → R v w → (∀ s u, look (ext Γ (l.take n) Vs) s = some (Ty.ex u) → a.tmps[s]? = some u) → wpList P l.toArray Q (l.drop n) a w) : (Code.region id l.toArray draw).wp P Q a0 w0 := by
  simp only [Bool.and_eq_true, decide_eq_true_eq] at hB
  obtain ⟨⟨⟨hB, hT⟩, hAn⟩, hpn⟩ := hB
  have hnl : n ≤ l.toArray.size := by
    unfold tailB at hT
    split at hT
    · rename_i h; simp at h; simp [h]
    · simp only [Bool.and_eq_true, decide_eq_true_eq] at hT; omega
  have hli : ∀ i, i < n → (l.take n)[i]? = l.toArray[i]? := fun i hi => by simp [hi]
  have hlen : n = (l.take n).length := by simp at hnl ⊢; omega
  refine region_inv (a0 := a0) (w0 := w0) (N := N) n hm (by simp [hB, hT]) (TInvE N n p R (l.take n) Vs a0 w0) (fun w hb => TInvE.start hF hb _) (fun listed a w i o hI hsz hcl hi ho hun hdep K Q hK => TInvE.step hpn hB hAn hli hL hF hI hsz hcl hi ho hun hdep K Q hK) fun listed a w hI hall => ?_
  obtain ⟨op, d, v, h1, h2, h3, h4⟩ := hI.post (hall p hpn)
  have e : d = dp := by
    have h5 := (hli p hpn).symm.trans h1
    unfold slotOf at hdp
    rw [h5] at hdp
    exact Option.some.inj (h2.symm.trans hdp)
  subst e
  refine hQ a w hI.size hI.defers v h3 h4 fun s u hs => ?_
  · rcases hL.ext_look s _ hs with ⟨j, oj, hoj, hds, hVj⟩ | ⟨hno, hl0⟩
    · have hj : j < n := by rw [hlen]; exact (List.getElem?_eq_some_iff.1 hoj).1
      exact hI.exs j oj s u hj (hall j hj) hoj hds hVj
    · obtain ⟨v, h1, h2⟩ := hF.val s _ hl0
      have h2 : v = u := h2
      subst h2
      rw [hI.out s (fun j oj _ _ hoj => hno j oj hoj)]
      exact h1
theorem Fr.bare {a : Act} {w : World} (h1 : a.tmps.size = N) (h2 : a.defers = []) : Fr N [] a w := ⟨h1, h2, fun s τ hs => by cases hs⟩
variable {o : Oper}
theorem fMove {x : Operand} {v : Value} (hg : o.guard = none) (ho : o.op = .move x) (hx : OpT Γ x (Ty.ex v)) : FloatOk P Γ o (Ty.ex v) := ⟨hg, v, rfl, fun a w h => by
  have h1 := h x v (by simp [ho, Op.operands]) hx
  unfold execOp
  simp [ho, h1]⟩
theorem fNil {x : Operand} {A : Addr} (hg : o.guard = none) (ho : o.op = .nilCheck x) (hx : OpT Γ x (Ty.ex (.pointer (some A)))) : FloatOk P Γ o (Ty.ex (.pointer (some A))) := ⟨hg, _, rfl, fun a w h => by
  have h1 := h x _ (by simp [ho, Op.operands]) hx
  unfold execOp
  simp [ho, h1]⟩
theorem fField {t : TypeId} {i : Nat} {x : Operand} {v u : Value} (hg : o.guard = none) (ho : o.op = .fieldAddr t x i) (hx : OpT Γ x (Ty.ex v)) (hr : ∀ w : World, (Instr.fieldAt t v i).run P w = .ok u w) : FloatOk P Γ o (Ty.ex u) := ⟨hg, _, rfl, fun a w h => by
  have h1 := h x _ (by simp [ho, Op.operands]) hx
  unfold execOp
  simp [ho, h1, hr]⟩
end
end Go.Proofs.YtmefpnklgfhggaaGreatDoor

/- The peeler's take. -/
namespace Go.Proofs.YtmefpnklgfhggaaGreatDoor
open Go.RowKit

/-- An append that may write in the room of a row of the call's own, as what acts in a region. -/
theorem evAppend {P : Program} {w0 : World} {Γ : Ctx} {o : Oper} {s : Nat} {x : Operand} {t e : TypeId} {z v : Value} {sz bytes n m : Nat} {xs news : List Value} {S : List Nat} {τ : Ty} (ho : o.op = .call { callee := .builtin .append, args := #[.tmp s, x], argTypes := #[t, t] }) (hs : look Γ s = some (Ty.ex v)) (ht : P.underlying t = some (.slice e)) (hi : (P.info? e).map (fun i => (i.zero, i.size, i.bytes)) = some (some z, sz, bytes)) (hzs : z.cells.size = sz)
    (hseg : Seg w0 e sz v n xs S) (hx : Has w0 Γ x τ) (hτ : ∀ {w : World} u, τ.p w u → ∃ A c, u = .slice A m c ∧ (A = none → m = 0) ∧ Rd w A news) (hl : news.length = m * sz) (h1 : ∀ u ∈ news, u.oneCell' = true) (h63 : n + m ≤ maxLen) (hbytes : (n + m) * bytes ≤ 140737488355328) :
    OpEv P w0 Γ o (fun v' w' => Keeps S w0 w' ∧ ∃ S', Seg w' e sz v' (n + m) (xs ++ news) S' ∧ ∀ b ∈ S', b ∈ S ∨ w0.heap.size ≤ b) := fun a w K Q hb hr hK => by
  obtain ⟨v', hv1, hv2⟩ := hr s _ (by simp [Oper.reads, ho, Op.operands, Call.operands]) hs
  have hv2 : v' = v := hv2
  subst hv2
  obtain ⟨u, hu1, hu2⟩ := hx.see (sees_of hr) (by simp [ho, Op.operands, Call.operands]) hb
  obtain ⟨A, c, rfl, hA, hrd⟩ := hτ u hu2
  refine wp_append_seg w (.tmp s) x t ho e z sz bytes ht hi hzs v' n xs S (by simp [Act.eval, Array.getD_eq_getD_getElem?, hv1]) (hseg.below hb) A m c news hu1 hl hrd hA h1 h63 hbytes fun v2 w' S' h2 h3 h4 => ?_
  refine hK v2 w' ⟨(Keeps.of_below hb).trans h3, S', h2, fun y hy => ?_⟩
  rcases h4 with rfl | rfl
  · exact .inl hy
  · simp only [List.mem_singleton] at hy
    subst hy
    exact .inr hb.size
theorem segs_apart {w : World} {e e2 : TypeId} {sz sz2 n n2 : Nat} {v v2 : Value} {xs ys : List Value} {S S2 : List Nat} (h : Seg w e sz v n xs S) (h2 : Seg w e2 sz2 v2 n2 ys S2) (hne : (e2 == e) = false) : ∀ y ∈ S, y ∉ S2 := fun y hy hm => by
  obtain ⟨cs, fr, k1⟩ := h.blocks y hy (h.lt y hy)
  obtain ⟨cs', fr', k2⟩ := h2.blocks y hm (h2.lt y hm)
  rw [k1] at k2
  simp only [Option.some.injEq, Obj.cells.injEq] at k2
  rw [k2.2.1] at hne
  simp at hne
theorem blk_apart {w : World} {e t : TypeId} {sz n g : Nat} {v : Value} {xs : List Value} {S : List Nat} {cs : Array Value} (h : Seg w e sz v n xs S) (hb : Blk w g t cs) (hne : (t == e) = false) : g ∉ S := fun hm => by
  have := seg_far h hb hne g hm
  simp at this
theorem MapIs.apart {w : World} {b m : Nat} {M : List Sm} {e : TypeId} {sz n : Nat} {v : Value} {xs : List Value} {S : List Nat} (h : MapIs w b m M) (hs : Seg w e sz v n xs S) : b ∉ S := fun hm => by
  obtain ⟨cs, fr, k1⟩ := hs.blocks b hm (hs.lt b hm)
  obtain ⟨es, clock, k2⟩ := h.obj
  rw [k1] at k2
  cases k2
theorem Ty.keepSeg (τ : Ty) {w w' : World} {v v2 : Value} {e : TypeId} {sz n : Nat} {xs : List Value} {S : List Nat} (h : τ.p w v) (k : Keeps S w w') (hs : Seg w e sz v2 n xs S) (he : τ.el e = false) : τ.p w' v := τ.st h k fun b hb hl => by
  obtain ⟨cs, fr, k1⟩ := hs.blocks b hb (hs.lt b hb)
  exact ⟨cs, e, fr, k1, he⟩
theorem cIndexArrEx {P : Program} {w0 : World} {Γ : Ctx} {o : Oper} {t ea : TypeId} {x ix : Operand} {g off n k : Nat} {kd : IntKind} (ho : o.op = .indexAddr t x ix) (hx : OpT Γ x (Ty.ex (.pointer (some ⟨g, off, none⟩)))) (hi : OpT Γ ix (Ty.ex (.int kd (k : Int)))) (hu : P.underlying t = some (.array n ea)) (hz : (P.info? ea).map (·.size) = some 1) (hk : k < n) : OpOk P w0 Γ o (Ty.ex (.pointer (some ⟨g, off + k, none⟩))) :=
  .val fun a w hb hs => by
    obtain ⟨v, h1, h2⟩ := hs x _ (by simp [ho, Op.operands]) hx
    have h2 : v = .pointer (some ⟨g, off, none⟩) := h2
    obtain ⟨i, h5, h6⟩ := hs ix _ (by simp [ho, Op.operands]) hi
    have h6 : i = .int kd (k : Int) := h6
    obtain ⟨inf, hinf, hsz⟩ := Option.map_eq_some_iff.1 hz
    refine ⟨_, rfl, ?_⟩
    unfold execOp
    simp [ho, h1, h2, h5, h6, Instr.indexAt, Instr.sureAddr, asIntOf, run_underlying hu, hk, sizeOf, typeInfo, hinf, hsz, Addr.add_lit]
abbrev SL2 : TypeId := 177
theorem sizeSL2 : (Tryz.prog.info? SL2).map (·.size) = some 2 := by kernel_rfl
theorem sizeSS1 : (Tryz.prog.info? 29).map (·.size) = some 1 := by kernel_rfl
theorem fieldR (g o2 : Nat) (w : World) : (Instr.fieldAt PeelT (.pointer (some ⟨g, o2, none⟩)) 3).run Tryz.prog w = .ok (.pointer (some ⟨g, o2 + 4, none⟩)) w := run_fieldAt Tryz.underlying179 rfl sizeSL2 g o2 w
theorem peel_cells0 {seed : Nat} {sL sP s0 s1 v : Value} {bm : Nat} (h : v.cells = #[v]) : splice (peelCells seed sL sP bm s0 s1).toArray 4 v.cells.toList = (peelCells seed sL sP bm v s1).toArray := by rw [h]; rfl
theorem peel_cells1 {seed : Nat} {sL sP s0 s1 v : Value} {bm : Nat} (h : v.cells = #[v]) : splice (peelCells seed sL sP bm s0 s1).toArray 5 v.cells.toList = (peelCells seed sL sP bm s0 v).toArray := by rw [h]; rfl
section
variable {w w' w'' : World} {gp seed bm n : Nat} {sL sP s0 s1 v : Value} {L : List Cl} {B : List Bool} {S r0 r1 : List Sm} {SL SP S0 S1 S' : List Nat} {x : Sm}
theorem PeelMem.add1 (h : PeelMem w gp seed sL sP bm s0 s1 L B S r0 r1 SL SP S0 S1 n) (k : Keeps S1 w w') (hs : Seg w' 28 32 v (r1.length + 1) (flat (r1 ++ [x])) S') (hS : ∀ b ∈ S', b ∈ S1 ∨ w.heap.size ≤ b) (hb : Blk w'' gp PeelT (peelCells seed sL sP bm s0 v).toArray) (k2 : Keeps [gp] w' w'') : PeelMem w'' gp seed sL sP bm s0 v L B S r0 (r1 ++ [x]) SL SP S0 S' n := by
  have hgp : gp ∉ S1 := blk_apart h.plus h.blk (by decide)
  have hb1 := h.blk.keeps k hgp
  have t1 := h.tab.keeps k (segs_apart h.tab h.plus (by decide))
  have p1 := h.pure.keeps k (segs_apart h.pure h.plus (by decide))
  have d1 := h.had.keeps k (h.had.apart h.plus)
  have m1 := h.minus.keeps k h.apart
  refine ⟨hb, t1.keeps k2 (seg_far t1 hb1 (by decide)), p1.keeps k2 (seg_far p1 hb1 (by decide)), d1.keeps k2 ?_, m1.keeps k2 (seg_far m1 hb1 (by decide)), ?_, fun y hy hm => ?_⟩
  · simpa using d1.ne hb1
  · have := hs.keeps k2 (seg_far hs hb1 (by decide))
    rwa [show r1.length + 1 = (r1 ++ [x]).length by simp] at this
  · rcases hS y hm with h1 | h1
    · exact h.apart y hy h1
    · have := h.minus.lt y hy; omega
theorem PeelMem.add0 (h : PeelMem w gp seed sL sP bm s0 s1 L B S r0 r1 SL SP S0 S1 n) (k : Keeps S0 w w') (hs : Seg w' 28 32 v (r0.length + 1) (flat (r0 ++ [x])) S') (hS : ∀ b ∈ S', b ∈ S0 ∨ w.heap.size ≤ b) (hb : Blk w'' gp PeelT (peelCells seed sL sP bm v s1).toArray) (k2 : Keeps [gp] w' w'') : PeelMem w'' gp seed sL sP bm v s1 L B S (r0 ++ [x]) r1 SL SP S' S1 n := by
  have hgp : gp ∉ S0 := blk_apart h.minus h.blk (by decide)
  have hb1 := h.blk.keeps k hgp
  have t1 := h.tab.keeps k (segs_apart h.tab h.minus (by decide))
  have p1 := h.pure.keeps k (segs_apart h.pure h.minus (by decide))
  have d1 := h.had.keeps k (h.had.apart h.minus)
  have m1 := h.plus.keeps k fun y hy hm => h.apart y hm hy
  refine ⟨hb, t1.keeps k2 (seg_far t1 hb1 (by decide)), p1.keeps k2 (seg_far p1 hb1 (by decide)), d1.keeps k2 ?_, ?_, m1.keeps k2 (seg_far m1 hb1 (by decide)), fun y hy hm => ?_⟩
  · simpa using d1.ne hb1
  · have := hs.keeps k2 (seg_far hs hb1 (by decide))
    rwa [show r0.length + 1 = (r0 ++ [x]).length by simp] at this
  · rcases hS y hy with h1 | h1
    · exact h.apart y h1 hm
    · have := h.plus.lt y hm; omega
/-- A cell changed. -/
theorem PeelMem.cell {L' : List Cl} {g off cap : Nat} (h : PeelMem w gp seed sL sP bm s0 s1 L B S r0 r1 SL SP S0 S1 n) (eS : SL = [g]) (eL : sL = .slice (some ⟨g, off, none⟩) L.length cap) (hl : L'.length = L.length) (hk : Keeps [g] w w') (h1 : SegL w' 69 65 g off L.length cap (flatC L')) : PeelMem w' gp seed sL sP bm s0 s1 L' B S r0 r1 SL SP S0 S1 n := by
  subst eS
  have hgp : gp ∉ [g] := blk_apart h.tab h.blk (by decide)
  refine ⟨h.blk.keeps hk hgp, ?_, ?_, h.had.keeps hk (h.had.apart h.tab), h.minus.keeps hk (segs_apart h.minus h.tab (by decide)), h.plus.keeps hk (segs_apart h.plus h.tab (by decide)), h.apart⟩
  · rw [eL, hl]; exact h1.seg
  · rw [hl]; exact h.pure.keeps hk (segs_apart h.pure h.tab (by decide))
end
theorem Fr.keepSeg {N : Nat} {Γ : Ctx} {a : Act} {w w' : World} {v : Value} {e : TypeId} {sz n : Nat} {xs : List Value} {S : List Nat} (h : Fr N Γ a w) (k : Keeps S w w') (hs : Seg w e sz v n xs S) (he : Γ.free e = true) : Fr N Γ a w' := h.keeps k fun _ _ hl b hb hlt => by
  obtain ⟨cs, fr, k1⟩ := hs.blocks b hb hlt
  exact ⟨cs, e, fr, k1, Ctx.free_look he hl⟩
theorem exs_nil : ∀ (s : Nat) (τ : Ty), look [] s = some τ → ∃ v, τ = Ty.ex v := fun s τ h => by cases h
theorem exs_cons {Γ : Ctx} {d : Nat} {v : Value} (h : ∀ (s : Nat) (τ : Ty), look Γ s = some τ → ∃ v, τ = Ty.ex v) : ∀ (s : Nat) (τ : Ty), look ((d, Ty.ex v) :: Γ) s = some τ → ∃ v, τ = Ty.ex v := fun s τ hs => by
  by_cases hds : d = s
  · subst hds
    rw [look_same] at hs
    injection hs with hs
    exact ⟨v, hs.symm⟩
  · rw [look_ne _ _ hds] at hs
    exact h s τ hs
/-- The map told anew. -/
theorem PeelMem.seen {w w' : World} {gp seed bm n m : Nat} {sL sP s0 s1 : Value} {L : List Cl} {B : List Bool} {S S2 r0 r1 : List Sm} {SL SP S0 S1 : List Nat} (h : PeelMem w gp seed sL sP bm s0 s1 L B S r0 r1 SL SP S0 S1 n) (k : Keeps [bm] w w') (h1 : MapIs w' bm m S2) : PeelMem w' gp seed sL sP bm s0 s1 L B S2 r0 r1 SL SP S0 S1 m := by
  have nm : ∀ {e : TypeId} {sz n : Nat} {v : Value} {xs : List Value} {S : List Nat}, Seg w e sz v n xs S → ∀ y ∈ S, y ∉ [bm] := fun hs y hy hm => by
    simp only [List.mem_singleton] at hm
    subst hm
    exact h.had.apart hs hy
  exact ⟨h.blk.keeps k (by simpa using fun e => h.had.ne h.blk e.symm), h.tab.keeps k (nm h.tab), h.pure.keeps k (nm h.pure), h1, h.minus.keeps k (nm h.minus), h.plus.keeps k (nm h.plus), h.apart⟩
/-- All blocks of a peeler are at lo or above. -/
structure PeelOwn (lo gp bm : Nat) (SL SP S0 S1 : List Nat) : Prop where
  gp : lo ≤ gp
  bm : lo ≤ bm
  tab : ∀ y ∈ SL, lo ≤ y
  pure : ∀ y ∈ SP, lo ≤ y
  minus : ∀ y ∈ S0, lo ≤ y
  plus : ∀ y ∈ S1, lo ≤ y
theorem below_lo {lo : Nat} {w wr w' : World} {S : List Nat} (hB : Below lo w wr) (hlo : lo ≤ w.heap.size) (hk : Keeps S wr w') (hS : ∀ y ∈ S, lo ≤ y) : Below lo w w' :=
  ⟨hk.os.trans hB.os, hk.tape.trans hB.tape, hk.output.trans hB.output, Nat.le_trans hB.size hk.size, fun k hkl => (hk.block k (Nat.lt_of_lt_of_le (Nat.lt_of_lt_of_le hkl hlo) hB.size) fun hm => by have := hS k hm; omega).trans (hB.block k hkl)⟩
end Go.Proofs.YtmefpnklgfhggaaGreatDoor

/- The peeler's take: the walk. -/
namespace Go.Proofs.YtmefpnklgfhggaaGreatDoor
open Go.RowKit

theorem at5 {W : World} {g : Nat} {x : Sm} (h : Blk W g 28 (u8s x.l)) : (Ty.at_ 28 x.enc).p W (.pointer (some ⟨g, 0, none⟩)) := by
  have h := blk_at h
  rwa [u8s_list] at h
abbrev RetT (P : Program) (f : FuncId) (args : Array Value) (w : World) (Q : Value → World → Prop) : Prop := Calls P f args w fun e w' => ∃ u, e = .returned u ∧ Q u w'
set_option maxRecDepth 100000 in
set_option maxHeartbeats 4000000 in
theorem takeP_any {w : World} {lo gp seed bm n : Nat} {sL sP s0 s1 : Value} {L : List Cl} {S r0 r1 : List Sm} {SL SP S0 S1 : List Nat} (h : PeelMem w gp seed sL sP bm s0 s1 L (pureB seed L) S r0 r1 SL SP S0 S1 n) (ho : PeelOwn lo gp bm SL SP S0 S1) (hlo : lo ≤ w.heap.size) (hsd : seed < 18446744073709551616) (hrl : r0.length + r1.length ≤ 1100) (hnl : n ≤ 1100) {i : Nat} (hi : i < L.length) (hp : pureAt seed L i = true) (hc : (L.getD i default).n = 1) {x : Sm} (hx : (L.getD i default).key = x) :
    RetT Tryz.prog 106 #[.pointer (some ⟨gp, 0, none⟩), .int .i64 (i : Int)] w fun u w' => u = .bool (!decide (x ∈ S)) ∧ Below lo w w' ∧ ∃ v' S', PeelMem w' gp seed sL sP bm s0 v' (tput seed L x (-1)) (pureB seed (tput seed L x (-1))) (x :: S) r0 (r1 ++ [x]) SL SP S0 S' (n + 1) ∧ PeelOwn lo gp bm SL SP S0 S' := by
  have hen : Enters Tryz.prog 104 := fun args w => by kernel_rfl
  have hPu := pure_ty (L.getD i default)
  unfold pureAt at hp
  simp only [Bool.and_eq_true] at hp
  have hsum : (L.getD i default).sum = x := (Cl.sum_ok hp.1).trans hx
  have hplus : (L.getD i default).plus = true := by unfold Cl.plus; rw [hp.1, Bool.true_and]; exact decide_eq_true hc
  rw [hsum, hplus, hp.1] at hPu
  clear hp hsum hplus
  have hPp := places_ty seed (L.length : Int) x hsd
  have hPl3 := placesN_len3 seed (L.length : Int) x
  have hPd : ∀ j, j < (placesN seed (L.length : Int) x).length → (placesN seed (L.length : Int) x).getD j 0 < L.length := fun j hj => places_lt seed L.length x _ (getD_mem hj)
  have hput : tput seed L x (-1) = (placesN seed (L.length : Int) x).foldl (fun L i => tputAt L i x (-1)) L := rfl
  rw [hput]
  clear hput
  generalize placesN seed (L.length : Int) x = PL at *
  refine enter_ty 94 [Ty.ex (.pointer (some ⟨gp, 0, none⟩)), Ty.ex (.int .i64 (i : Int))] Tryz.func106 rfl (by kernel_rfl) ⟨rfl, rfl, trivial⟩ fun a hF => ?_
  have hB := Below.refl w.heap.size w
  repeat with_reducible refine wp_seq ?_
  refine' reg_all hF ?_ mixed (by kernel_rfl) ?_
  rotate_left
  · repeat (first | exact Line.nil | ((refine' Line.cons rfl (.run rfl rfl ?_) ?_); (any_goals exact cAssign rfl rfl); rotate_left))
  intro a w0 hF hb hN
  have hBs := hB.size
  replace hB := hB.trans (hb.mono hB.size)
  dsimp only [ext, Option.getD] at hF
  repeat with_reducible first | refine wp_seq ?_ | refine nThen ?_
  refine wp_region_lit ?_
  refine' tlOp hF rfl rfl rfl ?_ ?_
  rotate_left
  · exact cMove rfl rfl
  intro a w1 hF hb
  have hBs := hB.size
  replace hB := hB.trans (hb.mono hB.size)
  try (refine wpList_nil ?_)
  refine' tlOp hF rfl rfl rfl ?_ ?_
  rotate_left
  · exact cNilOk rfl rfl
  intro a w2 hF hb
  have hBs := hB.size
  replace hB := hB.trans (hb.mono hB.size)
  try (refine wpList_nil ?_)
  refine' tlOp hF rfl rfl rfl ?_ ?_
  rotate_left
  · exact cPeelT rfl (.l rfl (h.below hB).at_)
  intro a w3 hF hb
  have hBs := hB.size
  replace hB := hB.trans (hb.mono hB.size)
  try (refine wpList_nil ?_)
  refine' tlOp hF rfl rfl rfl ?_ ?_
  rotate_left
  · exact cFldLx rfl (.t rfl)
  intro a w4 hF hb
  have hBs := hB.size
  replace hB := hB.trans (hb.mono hB.size)
  try (refine wpList_nil ?_)
  refine' tlOp hF rfl rfl rfl ?_ ?_
  rotate_left
  · exact cLoad1 (u := sL) rfl (.t rfl) (pts_at _ _) Tryz.underlying38 rfl
  intro a w5 hF hb
  have hBs := hB.size
  replace hB := hB.trans (hb.mono hB.size)
  try (refine wpList_nil ?_)
  replace hF := hF.as hF (s := 18) (σ := Ty.cls 69 L) rfl (fun v hv => by rw [show v = sL from hv]; exact (h.below hB).tab.sl)
  refine' tlOp hF rfl rfl rfl ?_ ?_
  rotate_left
  · exact cMove rfl rfl
  intro a w6 hF hb
  have hBs := hB.size
  replace hB := hB.trans (hb.mono hB.size)
  try (refine wpList_nil ?_)
  refine' tlOp hF rfl rfl rfl ?_ ?_
  rotate_left
  · exact cIndexCl (k := i) rfl (.t rfl) rfl Tryz.underlying38 info34 hi
  intro a w7 hF hb
  have hBs := hB.size
  replace hB := hB.trans (hb.mono hB.size)
  try (refine wpList_nil ?_)
  refine' tlOp hF rfl rfl rfl ?_ ?_
  rotate_left
  · exact cLoadCl34 rfl (.t rfl)
  intro a w8 hF hb
  have hBs := hB.size
  replace hB := hB.trans (hb.mono hB.size)
  try (refine wpList_nil ?_)
  refine' tlOp hF rfl rfl rfl ?_ ?_
  rotate_left
  · exact cCall1 rfl rfl hPu
  intro a w9 hF hb
  have hBs := hB.size
  replace hB := hB.trans (hb.mono hB.size)
  try (refine wpList_nil ?_)
  refine' tlOp hF rfl rfl rfl ?_ ?_
  rotate_left
  · exact cMove rfl rfl
  intro a w10 hF hb
  have hBs := hB.size
  replace hB := hB.trans (hb.mono hB.size)
  try (refine wpList_nil ?_)
  refine' tlOp hF rfl rfl rfl ?_ ?_
  rotate_left
  · exact cExtV rfl rfl rfl
  intro a w11 hF hb
  have hBs := hB.size
  replace hB := hB.trans (hb.mono hB.size)
  try (refine wpList_nil ?_)
  refine' tlOp hF rfl rfl rfl ?_ ?_
  rotate_left
  · exact cExtV rfl rfl rfl
  intro a w12 hF hb
  have hBs := hB.size
  replace hB := hB.trans (hb.mono hB.size)
  try (refine wpList_nil ?_)
  refine' tlOp hF rfl rfl rfl ?_ ?_
  rotate_left
  · exact cExtV rfl rfl rfl
  intro a w13 hF hb
  have hBs := hB.size
  replace hB := hB.trans (hb.mono hB.size)
  try (refine wpList_nil ?_)
  have hw13 := hB.size
  refine' tlOp hF rfl rfl rfl ?_ ?_
  rotate_left
  · exact cAllocN rfl (run_alloc_i infoS)
  intro a w14 hF hb
  have hBs := hB.size
  replace hB := hB.trans (hb.mono hB.size)
  try (refine wpList_nil ?_)
  obtain ⟨z, ⟨g5, rfl, hg5, hb5⟩, hF⟩ := hF.open (s := 5) rfl
  have hg5 : w13.heap.size ≤ g5 := hg5
  refine tlStoreV (Δ := [(0, Ty.ex (.pointer (some ⟨gp, 0, none⟩))), (5, Ty.ex (.pointer (some ⟨g5, 0, none⟩))), (24, Ty.ex (.bool true)), (25, Ty.ex (.bool true))]) hF rfl rfl rfl rfl (hF.getEx (s := 23) rfl) hb5 (sumSz _) (by show _ = some (u8s _).size; rw [Sm.size]; exact sizeS) (u8s_one _) (hF.keep [0, 5, 24, 25]) rfl ?_
  intro w15 hF hb5' hkx
  replace hB := below_own hB hkx (by intro y hy; simp only [List.mem_singleton] at hy; omega)
  replace hb5 : Blk w15 g5 28 (u8s x.l) := hb5'
  clear hb5' hkx
  refine' tlOp hF rfl rfl rfl ?_ ?_
  rotate_left
  · exact cAssign rfl rfl
  intro a w16 hF hb
  have hBs := hB.size
  replace hB := hB.trans (hb.mono hB.size)
  try (refine wpList_nil ?_)
  replace hb5 := hb5.below hb
  refine' tlOp hF rfl rfl rfl ?_ ?_
  rotate_left
  · exact cAssign rfl rfl
  intro a w17 hF hb
  have hBs := hB.size
  replace hB := hB.trans (hb.mono hB.size)
  try (refine wpList_nil ?_)
  repeat with_reducible first | refine wp_seq ?_ | refine nThen ?_
  replace hb5 := hb5.below hb
  refine' reg_all hF ?_ mixed (by kernel_rfl) ?_
  rotate_left
  · repeat (first | exact Line.nil | ((refine' Line.cons rfl (.run rfl rfl ?_) ?_); (any_goals exact cAssign rfl rfl); rotate_left))
  intro a w18 hF hb hN
  have hBs := hB.size
  replace hB := hB.trans (hb.mono hB.size)
  dsimp only [ext, Option.getD] at hF
  repeat with_reducible first | refine wp_seq ?_ | refine nThen ?_
  replace hb5 := hb5.below hb
  refine' reg_all hF ?_ mixed (by kernel_rfl) ?_
  rotate_left
  · repeat (first | exact Line.nil | ((refine' Line.cons rfl (.run rfl rfl ?_) ?_); (any_goals exact cMove rfl rfl); rotate_left))
  intro a w19 hF hb hN
  have hBs := hB.size
  replace hB := hB.trans (hb.mono hB.size)
  dsimp only [ext, Option.getD] at hF
  repeat with_reducible refine nThen ?_
  replace hb5 := hb5.below hb
  refine cond_t hF rfl ?_
  refine' reg_all hF ?_ mixed (by kernel_rfl) ?_
  rotate_left
  · repeat (first | exact Line.nil | ((refine' Line.cons rfl (.run rfl rfl ?_) ?_); (any_goals exact cAssign rfl rfl); rotate_left))
  intro a w20 hF hb hN
  have hBs := hB.size
  replace hB := hB.trans (hb.mono hB.size)
  dsimp only [ext, Option.getD] at hF
  repeat with_reducible first | refine wp_seq ?_ | refine nThen ?_
  replace hb5 := hb5.below hb
  have hq := h.below hB
  have hat := hq.at_
  have h5 := at5 hb5
  have hg5w : w.heap.size ≤ g5 := by omega
  refine' region_ev 13 10 [2, 3, 4, 5, 6, 7, 8, 9, 10] (dp := 37) (fun v' w' => Keeps S1 w20 w' ∧ ∃ S', Seg w' 28 32 v' (r1.length + 1) (flat r1 ++ flat [x]) S' ∧ ∀ b ∈ S', b ∈ S1 ∨ w20.heap.size ≤ b) mixed (by kernel_rfl) rfl hF ?_ ?_
  rotate_left
  · simp only [List.take_succ_cons, List.take_zero]
    refine' LineE.float rfl rfl ?_ ?_
    any_goals exact fMove rfl rfl rfl
    rotate_left
    refine' LineE.float rfl rfl ?_ ?_
    any_goals exact fMove rfl rfl rfl
    rotate_left
    refine' LineE.cons rfl rfl rfl (.run rfl rfl ?_) ?_
    any_goals exact cMove rfl rfl
    rotate_left
    refine' LineE.cons rfl rfl rfl (.run rfl rfl ?_) ?_
    any_goals exact cMove rfl rfl
    rotate_left
    refine' LineE.cons rfl rfl rfl (.run rfl rfl ?_) ?_
    any_goals exact cNilOk rfl rfl
    rotate_left
    refine' LineE.cons rfl rfl rfl (.run rfl rfl ?_) ?_
    any_goals exact cPeelR rfl (.l rfl hat)
    rotate_left
    refine' LineE.cons rfl rfl rfl (.run rfl rfl ?_) ?_
    any_goals exact cIndexArr (k := 1) rfl (.t rfl) rfl Tryz.underlying177 sizeSS1 (by decide)
    rotate_left
    refine' LineE.cons rfl rfl rfl (.run rfl rfl ?_) ?_
    any_goals exact cLoad1 (u := s1) rfl (.t rfl) (pts_at _ _) Tryz.underlying29 rfl
    rotate_left
    refine' LineE.cons rfl rfl rfl (.run rfl rfl ?_) ?_
    any_goals exact cLoadSum rfl (.l rfl h5) Tryz.underlying28 sizeS
    rotate_left
    refine' LineE.cons rfl rfl rfl (.run rfl rfl ?_) ?_
    any_goals exact cBuildSums [x] rfl (parts1v rfl rfl) Tryz.underlying29 infoS rfl
    rotate_left
    refine' LineE.event rfl rfl rfl ?_ ?_
    any_goals exact evAppend (m := 1) (news := flat [x]) rfl rfl Tryz.underlying29 infoS zero32_size hq.plus (.t rfl) sl_news (flat_len _) flat_one' (by simp [maxLen]; omega) (by omega)
    rotate_left
    refine' LineE.float rfl rfl ?_ ?_
    any_goals exact fNil rfl rfl rfl
    rotate_left
    refine' LineE.float rfl rfl ?_ ?_
    any_goals exact fField rfl rfl rfl (fieldR gp 0)
    rotate_left
    exact LineE.nil
  intro a W hsz hdf v' hv37 ⟨hk, S', hseg, hS'⟩ hX
  simp only [List.take_succ_cons, List.take_zero, List.drop_succ_cons, List.drop_zero] at hX ⊢
  dsimp only [ext, Option.getD] at hX
  have hF : Fr 94 [(0, Ty.ex (.pointer (some ⟨gp, 0, none⟩))), (5, Ty.ex (.pointer (some ⟨g5, 0, none⟩))), (9, Ty.ex (.func (.func 134) #[] #[])), (28, Ty.ex (.int .i64 1)), (37, Ty.ex v'), (39, Ty.ex (.pointer (some ⟨gp, 0 + 4, none⟩)))] a W := ((((((Fr.bare hsz hdf).letter (hX 39 _ rfl)).letter hv37).letter (hX 28 _ rfl)).letter (hX 9 _ rfl)).letter (hX 5 _ rfl)).letter (hX 0 _ rfl)
  rw [← flat_append] at hseg
  have hOS : ∀ y ∈ S', lo ≤ y := fun y hy => (hS' y hy).elim (ho.plus y) fun h => Nat.le_trans (Nat.le_trans hlo hB.size) h
  have hL : Below lo w W := below_lo (hB.mono hlo) hlo hk ho.plus
  have hg5n : g5 ∉ S1 := fun hm => by have := h.plus.lt g5 hm; omega
  replace hb5 := hb5.keeps hk hg5n
  have hbp := hq.blk.keeps hk (blk_apart hq.plus hq.blk (by decide))
  have hB0 := hB
  replace hB := Below.refl W.heap.size W
  refine' tlOp hF rfl rfl rfl ?_ ?_
  rotate_left
  · exact cIndexArrEx (k := 1) rfl rfl rfl Tryz.underlying177 sizeSS1 (by decide)
  intro a w30 hF hb
  have hBs := hB.size
  replace hB := hB.trans (hb.mono hB.size)
  try (refine wpList_nil ?_)
  replace hseg := hseg.below hb
  replace hbp := hbp.below hb
  replace hb5 := hb5.below hb
  have hk30 := hk.trans (Keeps.of_below (S := S1) (hb.mono (Nat.le_refl _)))
  have hL30 : Below lo w w30 := hL.trans (hb.mono (Nat.le_trans hlo hL.size))
  have hc1 := sl_cells (seg_isA hseg)
  have ho1 := sl_one1 (seg_isA hseg)
  refine tlStoreF (k := 4 + 1) (v := v') (Δ := [(0, Ty.ex (.pointer (some ⟨gp, 0, none⟩))), (5, Ty.ex (.pointer (some ⟨g5, 0, none⟩))), (9, Ty.ex (.func (.func 134) #[] #[]))]) hF rfl rfl rfl rfl (hF.getEx (s := 37) rfl) hbp (by rw [hc1]; simp [peelCells]) (by rw [hc1]; exact sizeSS1) ho1 (hF.keep [0, 5, 9]) rfl ?_
  intro w31 hF hbp' hk31
  refine wpList_nil ?_
  rw [peel_cells1 hc1] at hbp'
  have hM := PeelMem.add1 hq hk30 hseg hS' hbp' hk31
  have hg5p : g5 ∉ [gp] := by simpa using hb5.ne hbp (by decide)
  replace hb5 := hb5.keeps hk31 hg5p
  have hL : Below lo w w31 := below_lo hL30 hlo hk31 (by intro y hy; simp only [List.mem_singleton] at hy; subst hy; exact ho.gp)
  clear hk30 hL30 hk31 hbp hbp' hseg hk hq hat h5 hB0 hB hX hb
  have hO : PeelOwn lo gp bm SL SP S0 S' := ⟨ho.gp, ho.bm, ho.tab, ho.pure, ho.minus, hOS⟩
  have hB := Below.refl w31.heap.size w31
  have hat := hM.at_
  have hsL := hM.tab.sl
  have h5 := at5 hb5
  repeat with_reducible first | refine wp_seq ?_ | refine nThen ?_
  refine' reg_all hF ?_ mixed (by kernel_rfl) ?_
  rotate_left
  · repeat (first | exact Line.nil | ((refine' Line.cons rfl (.run rfl rfl ?_) ?_); (any_goals (first | exact cMove rfl rfl | exact cNilOk rfl rfl | exact cPeelT rfl (.l rfl hat) | exact cFldSx rfl (.t rfl) | exact cLoadU64 rfl (.t rfl) | exact cFldLx rfl (.t rfl) | exact cLoad1 (u := sL) rfl (.t rfl) (pts_at _ _) Tryz.underlying38 rfl | exact cLenH rfl (.l rfl hsL) (Ty.sl_isSl _ _ _) Tryz.underlying38 | exact cLoadSum rfl (.l rfl h5) Tryz.underlying28 sizeS | exact cCall3 rfl rfl rfl rfl hPp | exact cLen rfl rfl (Ty.sl_isSl _ _ _) Tryz.underlying33)); rotate_left))
  intro a w32 hF hb hN
  have hBs := hB.size
  replace hB := hB.trans (hb.mono hB.size)
  dsimp only [ext, Option.getD] at hF
  repeat with_reducible first | refine nThen ?_ | refine wp_block ?_
  replace hM := hM.below hb
  replace hb5 := hb5.below hb
  obtain ⟨v53, hv53, hF⟩ := hF.open (s := 53) rfl
  refine loop_ty (fun m a wr => ∃ j : Nat, j + m = PL.length ∧ Fr 94 [(0, Ty.ex (.pointer (some ⟨gp, 0, none⟩))), (5, Ty.ex (.pointer (some ⟨g5, 0, none⟩))), (9, Ty.ex (.func (.func 134) #[] #[])), (53, Ty.ex v53), (54, Ty.ex (.int .i64 (PL.length : Int))), (55, Ty.ex (.int .i64 (j : Int)))] a wr ∧ Below lo w wr ∧ PeelMem wr gp seed sL sP bm s0 v' ((PL.take j).foldl (fun L i => tputAt L i x (-1)) L) (pureB seed ((PL.take j).foldl (fun L i => tputAt L i x (-1)) L)) S r0 (r1 ++ [x]) SL SP S0 S' n ∧ Blk wr g5 28 (u8s x.l) ∧ (Ty.sl 3 PL.length (PL.map ivn)).p wr v53) PL.length ?_ ?_
  · exact ⟨0, by omega, hF.keep [0, 5, 9, 53, 54, 55], hL.trans (hb.mono (Nat.le_trans hlo hL.size)), hM, hb5, hv53⟩
  clear hF hB hL hM hb5 hv53 hat hsL h5 hb hBs
  rintro m a wr ⟨j, hj, hF, hL, hM, hb5, hv53⟩
  have hB := Below.refl wr.heap.size wr
  repeat with_reducible refine wp_seq ?_
  refine' reg_all hF ?_ mixed (by kernel_rfl) ?_
  rotate_left
  · repeat (first | exact Line.nil | ((refine' Line.cons rfl (.run rfl rfl ?_) ?_); (any_goals exact cLss rfl rfl rfl); rotate_left))
  intro a w40 hF hb hN
  have hBs := hB.size
  replace hB := hB.trans (hb.mono hB.size)
  dsimp only [ext, Option.getD] at hF
  repeat with_reducible first | refine wp_seq ?_ | refine nThen ?_
  have hL40 : Below lo w w40 := hL.trans (hb.mono (Nat.le_trans hlo hL.size))
  replace hM := hM.below hb
  replace hb5 := hb5.below hb
  replace hv53 : (Ty.sl 3 PL.length (PL.map ivn)).p w40 v53 := (Ty.sl 3 PL.length (PL.map ivn)).below hv53 hb
  refine cond_ty hF rfl (fun hlt => ?_) (fun hge => ?_)
  · have hlt : j < PL.length := by have := of_decide_eq_true hlt; omega
    have hi := hPd j hlt
    have hfs := fold_snoc PL hlt L x (-1)
    have hd1 := ivn_drop hlt
    have hFl : ((PL.take j).foldl (fun L i => tputAt L i x (-1)) L).length = L.length := by rw [foldAt_len]
    generalize (PL.take j).foldl (fun L i => tputAt L i x (-1)) L = R at *
    generalize PL.getD j 0 = i2 at *
    repeat with_reducible first | refine wp_seq ?_ | refine nThen ?_ | refine wp_skip ?_ | refine wp_block ?_
    refine' reg_all hF ?_ mixed (by kernel_rfl) ?_
    rotate_left
    · repeat (first | exact Line.nil | ((refine' Line.cons rfl (.run rfl rfl ?_) ?_); (any_goals (first | exact cAssign rfl rfl | exact cIndexS (k := j) (sz := 1) rfl (.l rfl hv53) rfl Tryz.underlying33 sizeI hlt (by rw [List.length_map]; omega) | exact cLoad1 (u := ivn i2) rfl (Has.c (.t rfl) (fun W v h => by rw [Nat.mul_one, hd1] at h; exact h)) (pts_at _ _) Tryz.underlying3 rfl)); rotate_left))
    intro a w41 hF hb hN
    have hBs := hB.size
    replace hB := hB.trans (hb.mono hB.size)
    dsimp only [ext, Option.getD] at hF
    repeat with_reducible first | refine wp_seq ?_ | refine nThen ?_
    replace hM := hM.below hb
    replace hb5 := hb5.below hb
    replace hv53 : (Ty.sl 3 PL.length (PL.map ivn)).p w41 v53 := (Ty.sl 3 PL.length (PL.map ivn)).below hv53 hb
    have hL41 : Below lo w w41 := hL40.trans (hb.mono (Nat.le_trans hlo hL40.size))
    obtain ⟨g, off, cap, eu, eS, hsl⟩ : ∃ g off cap, sL = .slice (some ⟨g, off, none⟩) R.length cap ∧ SL = [g] ∧ SegL w41 69 65 g off R.length cap (flatC R) := by
      rcases hM.tab.cases with ⟨_, h0, _⟩ | h
      · omega
      · exact h
    have hat := hM.at_
    rw [eu] at hat
    have h5 := at5 hb5
    have hcell := cell_at hsl (i := i2) (by omega)
    have hiR : i2 < R.length := by omega
    refine' region_ty 18 mixed (by kernel_rfl) hF ?_ ?_
    rotate_left
    · simp only [List.take_succ_cons, List.take_zero]
      repeat (first | exact Line.nil | ((refine' Line.cons rfl (.run rfl rfl ?_) ?_); (any_goals (first | exact cMove rfl rfl | exact cNilOk rfl rfl | exact cPeelT rfl (.l rfl hat) | exact cFldLx rfl (.t rfl) | exact cLoad1 (u := .slice (some ⟨g, off, none⟩) R.length cap) rfl (.t rfl) (pts_at _ _) Tryz.underlying38 rfl | exact cIndexEx (k := i2) (sz := 65) rfl rfl rfl Tryz.underlying38 info34 hiR | exact cLoadCl34 rfl (.l rfl hcell) | exact cLoadSum rfl (.l rfl h5) Tryz.underlying28 sizeS | exact cCallV2 rfl rfl (.t rfl) (.t rfl) (take_ty _ _))); rotate_left))
    intro a w42 hF hb hN
    have hBs := hB.size
    replace hB := hB.trans (hb.mono hB.size)
    simp only [List.take_succ_cons, List.take_zero, List.drop_succ_cons, List.drop_zero] at hF hN ⊢
    dsimp only [ext, Option.getD] at hF
    replace hM := hM.below hb
    replace hb5 := hb5.below hb
    replace hv53 : (Ty.sl 3 PL.length (PL.map ivn)).p w42 v53 := (Ty.sl 3 PL.length (PL.map ivn)).below hv53 hb
    have hL42 : Below lo w w42 := hL41.trans (hb.mono (Nat.le_trans hlo hL41.size))
    replace hsl := hsl.below hb
    refine tlStoreAt (Δ := [(0, Ty.ex (.pointer (some ⟨gp, 0, none⟩))), (5, Ty.ex (.pointer (some ⟨g5, 0, none⟩))), (9, Ty.ex (.func (.func 134) #[] #[])), (11, Ty.ex (ivn i2)), (53, Ty.ex v53), (54, Ty.ex (.int .i64 (PL.length : Int))), (55, Ty.ex (.int .i64 (j : Int)))]) (k := i2 * 65) hF rfl rfl rfl rfl rfl hsl (by rw [Cl.size]; omega) (by rw [Cl.size]; exact info34) (Cl.one _) (hF.keep [0, 5, 9, 11, 53, 54, 55]) rfl ?_
    intro w43 hF hsl hk43
    refine wpList_nil ?_
    rw [show ((R.getD i2 default).put x (-1)).a.toList = ((R.getD i2 default).put x (-1)).enc from rfl, over_flatC _ _ (by omega)] at hsl
    rw [show R.set i2 ((R.getD i2 default).put x (-1)) = tputAt R i2 x (-1) from rfl] at hsl
    have hl2 : (tputAt R i2 x (-1)).length = R.length := tputAt_len _ _ _ _
    have hgS : ∀ y ∈ [g], lo ≤ y := by rw [← eS]; exact ho.tab
    have hL43 : Below lo w w43 := below_lo hL42 hlo hk43 hgS
    replace hv53 := (Ty.sl 3 PL.length (PL.map ivn)).keepSeg hv53 (by rw [eS]; exact hk43) hM.tab rfl
    have hg5g : g5 ∉ [g] := by
      have := blk_apart hM.tab hb5 (by decide)
      rwa [eS] at this
    replace hb5 := hb5.keeps hk43 hg5g
    have hM2 := hM.cell eS eu hl2 hk43 hsl
    clear hM hsl hcell hat h5
    replace hB := Below.refl w43.heap.size w43
    repeat with_reducible refine nThen ?_
    refine' region_ty 2 mixed (by kernel_rfl) hF ?_ ?_
    rotate_left
    · simp only [List.take_succ_cons, List.take_zero]
      repeat (first | exact Line.nil | ((refine' Line.cons rfl (.run rfl rfl ?_) ?_); (any_goals exact cMove rfl rfl); rotate_left))
    intro a w44 hF hb hN
    have hBs := hB.size
    replace hB := hB.trans (hb.mono hB.size)
    simp only [List.take_succ_cons, List.take_zero, List.drop_succ_cons, List.drop_zero] at hF hN ⊢
    dsimp only [ext, Option.getD] at hF
    have hM44 := hM2.below hb
    replace hb5 := hb5.below hb
    replace hv53 : (Ty.sl 3 PL.length (PL.map ivn)).p w44 v53 := (Ty.sl 3 PL.length (PL.map ivn)).below hv53 hb
    have hL44 : Below lo w w44 := hL43.trans (hb.mono (Nat.le_trans hlo hL43.size))
    have hlk := look_any hM44 (by rw [pureB_len, hl2]) hsd (i := i2) (by rw [hl2]; exact hiR)
    rw [pureB_set x (-1) hiR, ← hfs] at hlk
    refine tlCall rfl rfl rfl (args := #[.pointer (some ⟨gp, 0, none⟩), ivn i2]) ?_ hen (R := fun u w' => PeelMem w' gp seed sL sP bm s0 v' ((PL.take (j + 1)).foldl (fun L i => tputAt L i x (-1)) L) (pureB seed ((PL.take (j + 1)).foldl (fun L i => tputAt L i x (-1)) L)) S r0 (r1 ++ [x]) SL SP S0 S' n ∧ Keeps SP w44 w') ?_ ?_
    · simp only [List.map_toArray, List.map_cons, List.map_nil, hF.getEx (s := 77) rfl, hF.getEx (s := 78) rfl]
    · exact hlk.mono fun e w' ⟨h1, h2, h3⟩ => ⟨_, h1, h2, h3⟩
    rintro z w45 ⟨hM, hk45⟩
    have hF := ((hF.keep [0, 5, 9, 53, 54, 55]).keepSeg hk45 hM44.pure rfl).put (d := 79) (by decide) (Below.refl _ _) (V := Ty.ex z) rfl
    have hL45 : Below lo w w45 := below_lo hL44 hlo hk45 ho.pure
    replace hv53 := (Ty.sl 3 PL.length (PL.map ivn)).keepSeg hv53 hk45 hM44.pure rfl
    replace hb5 := hb5.keeps hk45 (blk_apart hM44.pure hb5 (by decide))
    replace hB := Below.refl w45.heap.size w45
    refine wpList_nil ?_
    repeat with_reducible first | refine nThen ?_ | refine nBlk ?_
    refine' reg_all hF ?_ mixed (by kernel_rfl) ?_
    rotate_left
    · repeat (first | exact Line.nil | ((refine' Line.cons rfl (.run rfl rfl ?_) ?_); (any_goals (first | exact cMove rfl rfl | exact cAdd (r := ((j + 1 : Nat) : Int)) rfl rfl rfl (by omega))); rotate_left))
    intro a w46 hF hb hN
    have hBs := hB.size
    replace hB := hB.trans (hb.mono hB.size)
    dsimp only [ext, Option.getD] at hF
    repeat with_reducible refine nThen ?_
    exact ⟨m - 1, by omega, j + 1, by omega, hF.keep [0, 5, 9, 53, 54, 55], hL45.trans (hb.mono (Nat.le_trans hlo hL45.size)), hM.below hb, hb5.below hb, (Ty.sl 3 PL.length (PL.map ivn)).below hv53 hb⟩
  have hge : ¬ j < PL.length := by have := of_decide_eq_false hge; omega
  obtain rfl : j = PL.length := by omega
  rw [List.take_of_length_le (Nat.le_refl _)] at hM
  generalize PL.foldl (fun L i => tputAt L i x (-1)) L = R at *
  clear hv53
  have hat := hM.at_
  have h5 := at5 hb5
  have hmp : (Ty.mapS bm n S).p w40 (.map (some bm)) := ⟨rfl, hM.had⟩
  replace hB := Below.refl w40.heap.size w40
  repeat with_reducible first | refine wp_seq ?_ | refine nThen ?_ | refine wp_exit ?_ | refine xThen ?_ | refine xHere ?_
  refine' reg_all hF ?_ mixed (by kernel_rfl) ?_
  rotate_left
  · repeat (first | exact Line.nil | ((refine' Line.cons rfl (.run rfl rfl ?_) ?_); (any_goals (first | exact cMove rfl rfl | exact cAssign rfl rfl | exact cNilOk rfl rfl | exact cPeelM rfl (.l rfl hat) | exact cLoad1 (u := .map (some bm)) rfl (.t rfl) (pts_at _ _) Tryz.underlying176 rfl | exact cLoadSum rfl (.l rfl h5) Tryz.underlying28 sizeS | exact cLookS rfl (.l rfl hmp) rfl)); rotate_left))
  intro a w50 hF hb hN
  have hBs := hB.size
  replace hB := hB.trans (hb.mono hB.size)
  dsimp only [ext, Option.getD] at hF
  repeat with_reducible first | refine wp_seq ?_ | refine nThen ?_
  replace hM := hM.below hb
  have h5 := at5 (hb5.below hb)
  have hat := hM.at_
  refine' region_ty 5 mixed (by kernel_rfl) hF ?_ ?_
  rotate_left
  · simp only [List.take_succ_cons, List.take_zero]
    repeat (first | exact Line.nil | ((refine' Line.cons rfl (.run rfl rfl ?_) ?_); (any_goals (first | exact cMove rfl rfl | exact cNilOk rfl rfl | exact cPeelM rfl (.l rfl hat) | exact cLoad1 (u := .map (some bm)) rfl (.t rfl) (pts_at _ _) Tryz.underlying176 rfl | exact cLoadSum rfl (.l rfl h5) Tryz.underlying28 sizeS)); rotate_left))
  intro a w51 hF hb hN
  have hBs := hB.size
  replace hB := hB.trans (hb.mono hB.size)
  simp only [List.take_succ_cons, List.take_zero, List.drop_succ_cons, List.drop_zero] at hF hN ⊢
  dsimp only [ext, Option.getD] at hF
  replace hM := hM.below hb
  have hL51 : Below lo w w51 := hL40.trans (hB.mono (Nat.le_trans hlo hL40.size))
  refine tlMapPut rfl rfl rfl (hF.getEx (s := 90) rfl) (hF.getEx (s := 91) rfl) rfl hM.had (by simp [maxLen]; omega) ?_
  intro w52 hmap hk52
  have hM := hM.seen hk52 hmap
  have hF := (hF.keep [12]).exs (w' := w52) (exs_cons exs_nil)
  have hL52 : Below lo w w52 := below_lo hL51 hlo hk52 (by intro y hy; simp only [List.mem_singleton] at hy; subst hy; exact ho.bm)
  replace hB := Below.refl w52.heap.size w52
  refine wpList_nil ?_
  repeat with_reducible first | refine wp_seq ?_ | refine nThen ?_
  refine' reg_all hF ?_ mixed (by kernel_rfl) ?_
  rotate_left
  · repeat (first | exact Line.nil | ((refine' Line.cons rfl (.run rfl rfl ?_) ?_); (any_goals (first | exact cMove rfl rfl | exact cAssign rfl rfl | exact cNot rfl rfl)); rotate_left))
  intro a w53 hF hb hN
  have hBs := hB.size
  replace hB := hB.trans (hb.mono hB.size)
  dsimp only [ext, Option.getD] at hF
  repeat with_reducible first | refine nThen ?_ | refine wp_ret ?_
  refine ret1 hF rfl rfl fun z hz => ?_
  exact ⟨z, rfl, hz, hL52.trans (hb.mono (Nat.le_trans hlo hL52.size)), v', S', hM.below hb, hO⟩
set_option maxRecDepth 100000 in
set_option maxHeartbeats 4000000 in
theorem takeM_any {w : World} {lo gp seed bm n : Nat} {sL sP s0 s1 : Value} {L : List Cl} {S r0 r1 : List Sm} {SL SP S0 S1 : List Nat} (h : PeelMem w gp seed sL sP bm s0 s1 L (pureB seed L) S r0 r1 SL SP S0 S1 n) (ho : PeelOwn lo gp bm SL SP S0 S1) (hlo : lo ≤ w.heap.size) (hsd : seed < 18446744073709551616) (hrl : r0.length + r1.length ≤ 1100) (hnl : n ≤ 1100) {i : Nat} (hi : i < L.length) (hp : pureAt seed L i = true) (hc : ¬ (L.getD i default).n = 1) {x : Sm} (hx : (L.getD i default).key = x) :
    RetT Tryz.prog 106 #[.pointer (some ⟨gp, 0, none⟩), .int .i64 (i : Int)] w fun u w' => u = .bool (!decide (x ∈ S)) ∧ Below lo w w' ∧ ∃ v' S', PeelMem w' gp seed sL sP bm v' s1 (tput seed L x (1)) (pureB seed (tput seed L x (1))) (x :: S) (r0 ++ [x]) r1 SL SP S' S1 (n + 1) ∧ PeelOwn lo gp bm SL SP S' S1 := by
  have hen : Enters Tryz.prog 104 := fun args w => by kernel_rfl
  have hPu := pure_ty (L.getD i default)
  unfold pureAt at hp
  simp only [Bool.and_eq_true] at hp
  have hsum : (L.getD i default).sum = x := (Cl.sum_ok hp.1).trans hx
  have hplus : (L.getD i default).plus = false := by unfold Cl.plus; rw [hp.1, Bool.true_and]; exact decide_eq_false hc
  rw [hsum, hplus, hp.1] at hPu
  clear hp hsum hplus
  have hPp := places_ty seed (L.length : Int) x hsd
  have hPl3 := placesN_len3 seed (L.length : Int) x
  have hPd : ∀ j, j < (placesN seed (L.length : Int) x).length → (placesN seed (L.length : Int) x).getD j 0 < L.length := fun j hj => places_lt seed L.length x _ (getD_mem hj)
  have hput : tput seed L x (1) = (placesN seed (L.length : Int) x).foldl (fun L i => tputAt L i x (1)) L := rfl
  rw [hput]
  clear hput
  generalize placesN seed (L.length : Int) x = PL at *
  refine enter_ty 94 [Ty.ex (.pointer (some ⟨gp, 0, none⟩)), Ty.ex (.int .i64 (i : Int))] Tryz.func106 rfl (by kernel_rfl) ⟨rfl, rfl, trivial⟩ fun a hF => ?_
  have hB := Below.refl w.heap.size w
  repeat with_reducible refine wp_seq ?_
  refine' reg_all hF ?_ mixed (by kernel_rfl) ?_
  rotate_left
  · repeat (first | exact Line.nil | ((refine' Line.cons rfl (.run rfl rfl ?_) ?_); (any_goals exact cAssign rfl rfl); rotate_left))
  intro a w0 hF hb hN
  have hBs := hB.size
  replace hB := hB.trans (hb.mono hB.size)
  dsimp only [ext, Option.getD] at hF
  repeat with_reducible first | refine wp_seq ?_ | refine nThen ?_
  refine wp_region_lit ?_
  refine' tlOp hF rfl rfl rfl ?_ ?_
  rotate_left
  · exact cMove rfl rfl
  intro a w1 hF hb
  have hBs := hB.size
  replace hB := hB.trans (hb.mono hB.size)
  try (refine wpList_nil ?_)
  refine' tlOp hF rfl rfl rfl ?_ ?_
  rotate_left
  · exact cNilOk rfl rfl
  intro a w2 hF hb
  have hBs := hB.size
  replace hB := hB.trans (hb.mono hB.size)
  try (refine wpList_nil ?_)
  refine' tlOp hF rfl rfl rfl ?_ ?_
  rotate_left
  · exact cPeelT rfl (.l rfl (h.below hB).at_)
  intro a w3 hF hb
  have hBs := hB.size
  replace hB := hB.trans (hb.mono hB.size)
  try (refine wpList_nil ?_)
  refine' tlOp hF rfl rfl rfl ?_ ?_
  rotate_left
  · exact cFldLx rfl (.t rfl)
  intro a w4 hF hb
  have hBs := hB.size
  replace hB := hB.trans (hb.mono hB.size)
  try (refine wpList_nil ?_)
  refine' tlOp hF rfl rfl rfl ?_ ?_
  rotate_left
  · exact cLoad1 (u := sL) rfl (.t rfl) (pts_at _ _) Tryz.underlying38 rfl
  intro a w5 hF hb
  have hBs := hB.size
  replace hB := hB.trans (hb.mono hB.size)
  try (refine wpList_nil ?_)
  replace hF := hF.as hF (s := 18) (σ := Ty.cls 69 L) rfl (fun v hv => by rw [show v = sL from hv]; exact (h.below hB).tab.sl)
  refine' tlOp hF rfl rfl rfl ?_ ?_
  rotate_left
  · exact cMove rfl rfl
  intro a w6 hF hb
  have hBs := hB.size
  replace hB := hB.trans (hb.mono hB.size)
  try (refine wpList_nil ?_)
  refine' tlOp hF rfl rfl rfl ?_ ?_
  rotate_left
  · exact cIndexCl (k := i) rfl (.t rfl) rfl Tryz.underlying38 info34 hi
  intro a w7 hF hb
  have hBs := hB.size
  replace hB := hB.trans (hb.mono hB.size)
  try (refine wpList_nil ?_)
  refine' tlOp hF rfl rfl rfl ?_ ?_
  rotate_left
  · exact cLoadCl34 rfl (.t rfl)
  intro a w8 hF hb
  have hBs := hB.size
  replace hB := hB.trans (hb.mono hB.size)
  try (refine wpList_nil ?_)
  refine' tlOp hF rfl rfl rfl ?_ ?_
  rotate_left
  · exact cCall1 rfl rfl hPu
  intro a w9 hF hb
  have hBs := hB.size
  replace hB := hB.trans (hb.mono hB.size)
  try (refine wpList_nil ?_)
  refine' tlOp hF rfl rfl rfl ?_ ?_
  rotate_left
  · exact cMove rfl rfl
  intro a w10 hF hb
  have hBs := hB.size
  replace hB := hB.trans (hb.mono hB.size)
  try (refine wpList_nil ?_)
  refine' tlOp hF rfl rfl rfl ?_ ?_
  rotate_left
  · exact cExtV rfl rfl rfl
  intro a w11 hF hb
  have hBs := hB.size
  replace hB := hB.trans (hb.mono hB.size)
  try (refine wpList_nil ?_)
  refine' tlOp hF rfl rfl rfl ?_ ?_
  rotate_left
  · exact cExtV rfl rfl rfl
  intro a w12 hF hb
  have hBs := hB.size
  replace hB := hB.trans (hb.mono hB.size)
  try (refine wpList_nil ?_)
  refine' tlOp hF rfl rfl rfl ?_ ?_
  rotate_left
  · exact cExtV rfl rfl rfl
  intro a w13 hF hb
  have hBs := hB.size
  replace hB := hB.trans (hb.mono hB.size)
  try (refine wpList_nil ?_)
  have hw13 := hB.size
  refine' tlOp hF rfl rfl rfl ?_ ?_
  rotate_left
  · exact cAllocN rfl (run_alloc_i infoS)
  intro a w14 hF hb
  have hBs := hB.size
  replace hB := hB.trans (hb.mono hB.size)
  try (refine wpList_nil ?_)
  obtain ⟨z, ⟨g5, rfl, hg5, hb5⟩, hF⟩ := hF.open (s := 5) rfl
  have hg5 : w13.heap.size ≤ g5 := hg5
  refine tlStoreV (Δ := [(0, Ty.ex (.pointer (some ⟨gp, 0, none⟩))), (5, Ty.ex (.pointer (some ⟨g5, 0, none⟩))), (24, Ty.ex (.bool false)), (25, Ty.ex (.bool true))]) hF rfl rfl rfl rfl (hF.getEx (s := 23) rfl) hb5 (sumSz _) (by show _ = some (u8s _).size; rw [Sm.size]; exact sizeS) (u8s_one _) (hF.keep [0, 5, 24, 25]) rfl ?_
  intro w15 hF hb5' hkx
  replace hB := below_own hB hkx (by intro y hy; simp only [List.mem_singleton] at hy; omega)
  replace hb5 : Blk w15 g5 28 (u8s x.l) := hb5'
  clear hb5' hkx
  refine' tlOp hF rfl rfl rfl ?_ ?_
  rotate_left
  · exact cAssign rfl rfl
  intro a w16 hF hb
  have hBs := hB.size
  replace hB := hB.trans (hb.mono hB.size)
  try (refine wpList_nil ?_)
  replace hb5 := hb5.below hb
  refine' tlOp hF rfl rfl rfl ?_ ?_
  rotate_left
  · exact cAssign rfl rfl
  intro a w17 hF hb
  have hBs := hB.size
  replace hB := hB.trans (hb.mono hB.size)
  try (refine wpList_nil ?_)
  repeat with_reducible first | refine wp_seq ?_ | refine nThen ?_
  replace hb5 := hb5.below hb
  refine' reg_all hF ?_ mixed (by kernel_rfl) ?_
  rotate_left
  · repeat (first | exact Line.nil | ((refine' Line.cons rfl (.run rfl rfl ?_) ?_); (any_goals exact cAssign rfl rfl); rotate_left))
  intro a w18 hF hb hN
  have hBs := hB.size
  replace hB := hB.trans (hb.mono hB.size)
  dsimp only [ext, Option.getD] at hF
  repeat with_reducible first | refine wp_seq ?_ | refine nThen ?_
  replace hb5 := hb5.below hb
  refine' reg_all hF ?_ mixed (by kernel_rfl) ?_
  rotate_left
  · repeat (first | exact Line.nil | ((refine' Line.cons rfl (.run rfl rfl ?_) ?_); (any_goals exact cMove rfl rfl); rotate_left))
  intro a w19 hF hb hN
  have hBs := hB.size
  replace hB := hB.trans (hb.mono hB.size)
  dsimp only [ext, Option.getD] at hF
  repeat with_reducible refine nThen ?_
  replace hb5 := hb5.below hb
  refine cond_f hF rfl ?_
  repeat with_reducible first | refine wp_seq ?_ | refine nThen ?_ | refine wp_skip ?_
  skip
  skip
  have hq := h.below hB
  have hat := hq.at_
  have h5 := at5 hb5
  have hg5w : w.heap.size ≤ g5 := by omega
  refine' region_ev 13 10 [2, 3, 4, 5, 6, 7, 8, 9, 10] (dp := 37) (fun v' w' => Keeps S0 w19 w' ∧ ∃ S', Seg w' 28 32 v' (r0.length + 1) (flat r0 ++ flat [x]) S' ∧ ∀ b ∈ S', b ∈ S0 ∨ w19.heap.size ≤ b) mixed (by kernel_rfl) rfl hF ?_ ?_
  rotate_left
  · simp only [List.take_succ_cons, List.take_zero]
    refine' LineE.float rfl rfl ?_ ?_
    any_goals exact fMove rfl rfl rfl
    rotate_left
    refine' LineE.float rfl rfl ?_ ?_
    any_goals exact fMove rfl rfl rfl
    rotate_left
    refine' LineE.cons rfl rfl rfl (.run rfl rfl ?_) ?_
    any_goals exact cMove rfl rfl
    rotate_left
    refine' LineE.cons rfl rfl rfl (.run rfl rfl ?_) ?_
    any_goals exact cMove rfl rfl
    rotate_left
    refine' LineE.cons rfl rfl rfl (.run rfl rfl ?_) ?_
    any_goals exact cNilOk rfl rfl
    rotate_left
    refine' LineE.cons rfl rfl rfl (.run rfl rfl ?_) ?_
    any_goals exact cPeelR rfl (.l rfl hat)
    rotate_left
    refine' LineE.cons rfl rfl rfl (.run rfl rfl ?_) ?_
    any_goals exact cIndexArr (k := 0) rfl (.t rfl) rfl Tryz.underlying177 sizeSS1 (by decide)
    rotate_left
    refine' LineE.cons rfl rfl rfl (.run rfl rfl ?_) ?_
    any_goals exact cLoad1 (u := s0) rfl (.t rfl) (pts_at _ _) Tryz.underlying29 rfl
    rotate_left
    refine' LineE.cons rfl rfl rfl (.run rfl rfl ?_) ?_
    any_goals exact cLoadSum rfl (.l rfl h5) Tryz.underlying28 sizeS
    rotate_left
    refine' LineE.cons rfl rfl rfl (.run rfl rfl ?_) ?_
    any_goals exact cBuildSums [x] rfl (parts1v rfl rfl) Tryz.underlying29 infoS rfl
    rotate_left
    refine' LineE.event rfl rfl rfl ?_ ?_
    any_goals exact evAppend (m := 1) (news := flat [x]) rfl rfl Tryz.underlying29 infoS zero32_size hq.minus (.t rfl) sl_news (flat_len _) flat_one' (by simp [maxLen]; omega) (by omega)
    rotate_left
    refine' LineE.float rfl rfl ?_ ?_
    any_goals exact fNil rfl rfl rfl
    rotate_left
    refine' LineE.float rfl rfl ?_ ?_
    any_goals exact fField rfl rfl rfl (fieldR gp 0)
    rotate_left
    exact LineE.nil
  intro a W hsz hdf v' hv37 ⟨hk, S', hseg, hS'⟩ hX
  simp only [List.take_succ_cons, List.take_zero, List.drop_succ_cons, List.drop_zero] at hX ⊢
  dsimp only [ext, Option.getD] at hX
  have hF : Fr 94 [(0, Ty.ex (.pointer (some ⟨gp, 0, none⟩))), (5, Ty.ex (.pointer (some ⟨g5, 0, none⟩))), (9, Ty.ex (.func (.func 46) #[] #[])), (28, Ty.ex (.int .i64 0)), (37, Ty.ex v'), (39, Ty.ex (.pointer (some ⟨gp, 0 + 4, none⟩)))] a W := ((((((Fr.bare hsz hdf).letter (hX 39 _ rfl)).letter hv37).letter (hX 28 _ rfl)).letter (hX 9 _ rfl)).letter (hX 5 _ rfl)).letter (hX 0 _ rfl)
  rw [← flat_append] at hseg
  have hOS : ∀ y ∈ S', lo ≤ y := fun y hy => (hS' y hy).elim (ho.minus y) fun h => Nat.le_trans (Nat.le_trans hlo hB.size) h
  have hL : Below lo w W := below_lo (hB.mono hlo) hlo hk ho.minus
  have hg5n : g5 ∉ S0 := fun hm => by have := h.minus.lt g5 hm; omega
  replace hb5 := hb5.keeps hk hg5n
  have hbp := hq.blk.keeps hk (blk_apart hq.minus hq.blk (by decide))
  have hB0 := hB
  replace hB := Below.refl W.heap.size W
  refine' tlOp hF rfl rfl rfl ?_ ?_
  rotate_left
  · exact cIndexArrEx (k := 0) rfl rfl rfl Tryz.underlying177 sizeSS1 (by decide)
  intro a w30 hF hb
  have hBs := hB.size
  replace hB := hB.trans (hb.mono hB.size)
  try (refine wpList_nil ?_)
  replace hseg := hseg.below hb
  replace hbp := hbp.below hb
  replace hb5 := hb5.below hb
  have hk30 := hk.trans (Keeps.of_below (S := S0) (hb.mono (Nat.le_refl _)))
  have hL30 : Below lo w w30 := hL.trans (hb.mono (Nat.le_trans hlo hL.size))
  have hc1 := sl_cells (seg_isA hseg)
  have ho1 := sl_one1 (seg_isA hseg)
  refine tlStoreF (k := 4 + 0) (v := v') (Δ := [(0, Ty.ex (.pointer (some ⟨gp, 0, none⟩))), (5, Ty.ex (.pointer (some ⟨g5, 0, none⟩))), (9, Ty.ex (.func (.func 46) #[] #[]))]) hF rfl rfl rfl rfl (hF.getEx (s := 37) rfl) hbp (by rw [hc1]; simp [peelCells]) (by rw [hc1]; exact sizeSS1) ho1 (hF.keep [0, 5, 9]) rfl ?_
  intro w31 hF hbp' hk31
  refine wpList_nil ?_
  rw [peel_cells0 hc1] at hbp'
  have hM := PeelMem.add0 hq hk30 hseg hS' hbp' hk31
  have hg5p : g5 ∉ [gp] := by simpa using hb5.ne hbp (by decide)
  replace hb5 := hb5.keeps hk31 hg5p
  have hL : Below lo w w31 := below_lo hL30 hlo hk31 (by intro y hy; simp only [List.mem_singleton] at hy; subst hy; exact ho.gp)
  clear hk30 hL30 hk31 hbp hbp' hseg hk hq hat h5 hB0 hB hX hb
  have hO : PeelOwn lo gp bm SL SP S' S1 := ⟨ho.gp, ho.bm, ho.tab, ho.pure, hOS, ho.plus⟩
  have hB := Below.refl w31.heap.size w31
  have hat := hM.at_
  have hsL := hM.tab.sl
  have h5 := at5 hb5
  repeat with_reducible first | refine wp_seq ?_ | refine nThen ?_
  refine' reg_all hF ?_ mixed (by kernel_rfl) ?_
  rotate_left
  · repeat (first | exact Line.nil | ((refine' Line.cons rfl (.run rfl rfl ?_) ?_); (any_goals (first | exact cMove rfl rfl | exact cNilOk rfl rfl | exact cPeelT rfl (.l rfl hat) | exact cFldSx rfl (.t rfl) | exact cLoadU64 rfl (.t rfl) | exact cFldLx rfl (.t rfl) | exact cLoad1 (u := sL) rfl (.t rfl) (pts_at _ _) Tryz.underlying38 rfl | exact cLenH rfl (.l rfl hsL) (Ty.sl_isSl _ _ _) Tryz.underlying38 | exact cLoadSum rfl (.l rfl h5) Tryz.underlying28 sizeS | exact cCall3 rfl rfl rfl rfl hPp | exact cLen rfl rfl (Ty.sl_isSl _ _ _) Tryz.underlying33)); rotate_left))
  intro a w32 hF hb hN
  have hBs := hB.size
  replace hB := hB.trans (hb.mono hB.size)
  dsimp only [ext, Option.getD] at hF
  repeat with_reducible first | refine nThen ?_ | refine wp_block ?_
  replace hM := hM.below hb
  replace hb5 := hb5.below hb
  obtain ⟨v53, hv53, hF⟩ := hF.open (s := 53) rfl
  refine loop_ty (fun m a wr => ∃ j : Nat, j + m = PL.length ∧ Fr 94 [(0, Ty.ex (.pointer (some ⟨gp, 0, none⟩))), (5, Ty.ex (.pointer (some ⟨g5, 0, none⟩))), (9, Ty.ex (.func (.func 46) #[] #[])), (53, Ty.ex v53), (54, Ty.ex (.int .i64 (PL.length : Int))), (55, Ty.ex (.int .i64 (j : Int)))] a wr ∧ Below lo w wr ∧ PeelMem wr gp seed sL sP bm v' s1 ((PL.take j).foldl (fun L i => tputAt L i x (1)) L) (pureB seed ((PL.take j).foldl (fun L i => tputAt L i x (1)) L)) S (r0 ++ [x]) r1 SL SP S' S1 n ∧ Blk wr g5 28 (u8s x.l) ∧ (Ty.sl 3 PL.length (PL.map ivn)).p wr v53) PL.length ?_ ?_
  · exact ⟨0, by omega, hF.keep [0, 5, 9, 53, 54, 55], hL.trans (hb.mono (Nat.le_trans hlo hL.size)), hM, hb5, hv53⟩
  clear hF hB hL hM hb5 hv53 hat hsL h5 hb hBs
  rintro m a wr ⟨j, hj, hF, hL, hM, hb5, hv53⟩
  have hB := Below.refl wr.heap.size wr
  repeat with_reducible refine wp_seq ?_
  refine' reg_all hF ?_ mixed (by kernel_rfl) ?_
  rotate_left
  · repeat (first | exact Line.nil | ((refine' Line.cons rfl (.run rfl rfl ?_) ?_); (any_goals exact cLss rfl rfl rfl); rotate_left))
  intro a w40 hF hb hN
  have hBs := hB.size
  replace hB := hB.trans (hb.mono hB.size)
  dsimp only [ext, Option.getD] at hF
  repeat with_reducible first | refine wp_seq ?_ | refine nThen ?_
  have hL40 : Below lo w w40 := hL.trans (hb.mono (Nat.le_trans hlo hL.size))
  replace hM := hM.below hb
  replace hb5 := hb5.below hb
  replace hv53 : (Ty.sl 3 PL.length (PL.map ivn)).p w40 v53 := (Ty.sl 3 PL.length (PL.map ivn)).below hv53 hb
  refine cond_ty hF rfl (fun hlt => ?_) (fun hge => ?_)
  · have hlt : j < PL.length := by have := of_decide_eq_true hlt; omega
    have hi := hPd j hlt
    have hfs := fold_snoc PL hlt L x (1)
    have hd1 := ivn_drop hlt
    have hFl : ((PL.take j).foldl (fun L i => tputAt L i x (1)) L).length = L.length := by rw [foldAt_len]
    generalize (PL.take j).foldl (fun L i => tputAt L i x (1)) L = R at *
    generalize PL.getD j 0 = i2 at *
    repeat with_reducible first | refine wp_seq ?_ | refine nThen ?_ | refine wp_skip ?_ | refine wp_block ?_
    refine' reg_all hF ?_ mixed (by kernel_rfl) ?_
    rotate_left
    · repeat (first | exact Line.nil | ((refine' Line.cons rfl (.run rfl rfl ?_) ?_); (any_goals (first | exact cAssign rfl rfl | exact cIndexS (k := j) (sz := 1) rfl (.l rfl hv53) rfl Tryz.underlying33 sizeI hlt (by rw [List.length_map]; omega) | exact cLoad1 (u := ivn i2) rfl (Has.c (.t rfl) (fun W v h => by rw [Nat.mul_one, hd1] at h; exact h)) (pts_at _ _) Tryz.underlying3 rfl)); rotate_left))
    intro a w41 hF hb hN
    have hBs := hB.size
    replace hB := hB.trans (hb.mono hB.size)
    dsimp only [ext, Option.getD] at hF
    repeat with_reducible first | refine wp_seq ?_ | refine nThen ?_
    replace hM := hM.below hb
    replace hb5 := hb5.below hb
    replace hv53 : (Ty.sl 3 PL.length (PL.map ivn)).p w41 v53 := (Ty.sl 3 PL.length (PL.map ivn)).below hv53 hb
    have hL41 : Below lo w w41 := hL40.trans (hb.mono (Nat.le_trans hlo hL40.size))
    obtain ⟨g, off, cap, eu, eS, hsl⟩ : ∃ g off cap, sL = .slice (some ⟨g, off, none⟩) R.length cap ∧ SL = [g] ∧ SegL w41 69 65 g off R.length cap (flatC R) := by
      rcases hM.tab.cases with ⟨_, h0, _⟩ | h
      · omega
      · exact h
    have hat := hM.at_
    rw [eu] at hat
    have h5 := at5 hb5
    have hcell := cell_at hsl (i := i2) (by omega)
    have hiR : i2 < R.length := by omega
    refine' region_ty 18 mixed (by kernel_rfl) hF ?_ ?_
    rotate_left
    · simp only [List.take_succ_cons, List.take_zero]
      repeat (first | exact Line.nil | ((refine' Line.cons rfl (.run rfl rfl ?_) ?_); (any_goals (first | exact cMove rfl rfl | exact cNilOk rfl rfl | exact cPeelT rfl (.l rfl hat) | exact cFldLx rfl (.t rfl) | exact cLoad1 (u := .slice (some ⟨g, off, none⟩) R.length cap) rfl (.t rfl) (pts_at _ _) Tryz.underlying38 rfl | exact cIndexEx (k := i2) (sz := 65) rfl rfl rfl Tryz.underlying38 info34 hiR | exact cLoadCl34 rfl (.l rfl hcell) | exact cLoadSum rfl (.l rfl h5) Tryz.underlying28 sizeS | exact cCallV2 rfl rfl (.t rfl) (.t rfl) (put_ty _ _))); rotate_left))
    intro a w42 hF hb hN
    have hBs := hB.size
    replace hB := hB.trans (hb.mono hB.size)
    simp only [List.take_succ_cons, List.take_zero, List.drop_succ_cons, List.drop_zero] at hF hN ⊢
    dsimp only [ext, Option.getD] at hF
    replace hM := hM.below hb
    replace hb5 := hb5.below hb
    replace hv53 : (Ty.sl 3 PL.length (PL.map ivn)).p w42 v53 := (Ty.sl 3 PL.length (PL.map ivn)).below hv53 hb
    have hL42 : Below lo w w42 := hL41.trans (hb.mono (Nat.le_trans hlo hL41.size))
    replace hsl := hsl.below hb
    refine tlStoreAt (Δ := [(0, Ty.ex (.pointer (some ⟨gp, 0, none⟩))), (5, Ty.ex (.pointer (some ⟨g5, 0, none⟩))), (9, Ty.ex (.func (.func 46) #[] #[])), (11, Ty.ex (ivn i2)), (53, Ty.ex v53), (54, Ty.ex (.int .i64 (PL.length : Int))), (55, Ty.ex (.int .i64 (j : Int)))]) (k := i2 * 65) hF rfl rfl rfl rfl rfl hsl (by rw [Cl.size]; omega) (by rw [Cl.size]; exact info34) (Cl.one _) (hF.keep [0, 5, 9, 11, 53, 54, 55]) rfl ?_
    intro w43 hF hsl hk43
    refine wpList_nil ?_
    rw [show ((R.getD i2 default).put x (1)).a.toList = ((R.getD i2 default).put x (1)).enc from rfl, over_flatC _ _ (by omega)] at hsl
    rw [show R.set i2 ((R.getD i2 default).put x (1)) = tputAt R i2 x (1) from rfl] at hsl
    have hl2 : (tputAt R i2 x (1)).length = R.length := tputAt_len _ _ _ _
    have hgS : ∀ y ∈ [g], lo ≤ y := by rw [← eS]; exact ho.tab
    have hL43 : Below lo w w43 := below_lo hL42 hlo hk43 hgS
    replace hv53 := (Ty.sl 3 PL.length (PL.map ivn)).keepSeg hv53 (by rw [eS]; exact hk43) hM.tab rfl
    have hg5g : g5 ∉ [g] := by
      have := blk_apart hM.tab hb5 (by decide)
      rwa [eS] at this
    replace hb5 := hb5.keeps hk43 hg5g
    have hM2 := hM.cell eS eu hl2 hk43 hsl
    clear hM hsl hcell hat h5
    replace hB := Below.refl w43.heap.size w43
    repeat with_reducible refine nThen ?_
    refine' region_ty 2 mixed (by kernel_rfl) hF ?_ ?_
    rotate_left
    · simp only [List.take_succ_cons, List.take_zero]
      repeat (first | exact Line.nil | ((refine' Line.cons rfl (.run rfl rfl ?_) ?_); (any_goals exact cMove rfl rfl); rotate_left))
    intro a w44 hF hb hN
    have hBs := hB.size
    replace hB := hB.trans (hb.mono hB.size)
    simp only [List.take_succ_cons, List.take_zero, List.drop_succ_cons, List.drop_zero] at hF hN ⊢
    dsimp only [ext, Option.getD] at hF
    have hM44 := hM2.below hb
    replace hb5 := hb5.below hb
    replace hv53 : (Ty.sl 3 PL.length (PL.map ivn)).p w44 v53 := (Ty.sl 3 PL.length (PL.map ivn)).below hv53 hb
    have hL44 : Below lo w w44 := hL43.trans (hb.mono (Nat.le_trans hlo hL43.size))
    have hlk := look_any hM44 (by rw [pureB_len, hl2]) hsd (i := i2) (by rw [hl2]; exact hiR)
    rw [pureB_set x (1) hiR, ← hfs] at hlk
    refine tlCall rfl rfl rfl (args := #[.pointer (some ⟨gp, 0, none⟩), ivn i2]) ?_ hen (R := fun u w' => PeelMem w' gp seed sL sP bm v' s1 ((PL.take (j + 1)).foldl (fun L i => tputAt L i x (1)) L) (pureB seed ((PL.take (j + 1)).foldl (fun L i => tputAt L i x (1)) L)) S (r0 ++ [x]) r1 SL SP S' S1 n ∧ Keeps SP w44 w') ?_ ?_
    · simp only [List.map_toArray, List.map_cons, List.map_nil, hF.getEx (s := 77) rfl, hF.getEx (s := 78) rfl]
    · exact hlk.mono fun e w' ⟨h1, h2, h3⟩ => ⟨_, h1, h2, h3⟩
    rintro z w45 ⟨hM, hk45⟩
    have hF := ((hF.keep [0, 5, 9, 53, 54, 55]).keepSeg hk45 hM44.pure rfl).put (d := 79) (by decide) (Below.refl _ _) (V := Ty.ex z) rfl
    have hL45 : Below lo w w45 := below_lo hL44 hlo hk45 ho.pure
    replace hv53 := (Ty.sl 3 PL.length (PL.map ivn)).keepSeg hv53 hk45 hM44.pure rfl
    replace hb5 := hb5.keeps hk45 (blk_apart hM44.pure hb5 (by decide))
    replace hB := Below.refl w45.heap.size w45
    refine wpList_nil ?_
    repeat with_reducible first | refine nThen ?_ | refine nBlk ?_
    refine' reg_all hF ?_ mixed (by kernel_rfl) ?_
    rotate_left
    · repeat (first | exact Line.nil | ((refine' Line.cons rfl (.run rfl rfl ?_) ?_); (any_goals (first | exact cMove rfl rfl | exact cAdd (r := ((j + 1 : Nat) : Int)) rfl rfl rfl (by omega))); rotate_left))
    intro a w46 hF hb hN
    have hBs := hB.size
    replace hB := hB.trans (hb.mono hB.size)
    dsimp only [ext, Option.getD] at hF
    repeat with_reducible refine nThen ?_
    exact ⟨m - 1, by omega, j + 1, by omega, hF.keep [0, 5, 9, 53, 54, 55], hL45.trans (hb.mono (Nat.le_trans hlo hL45.size)), hM.below hb, hb5.below hb, (Ty.sl 3 PL.length (PL.map ivn)).below hv53 hb⟩
  have hge : ¬ j < PL.length := by have := of_decide_eq_false hge; omega
  obtain rfl : j = PL.length := by omega
  rw [List.take_of_length_le (Nat.le_refl _)] at hM
  generalize PL.foldl (fun L i => tputAt L i x (1)) L = R at *
  clear hv53
  have hat := hM.at_
  have h5 := at5 hb5
  have hmp : (Ty.mapS bm n S).p w40 (.map (some bm)) := ⟨rfl, hM.had⟩
  replace hB := Below.refl w40.heap.size w40
  repeat with_reducible first | refine wp_seq ?_ | refine nThen ?_ | refine wp_exit ?_ | refine xThen ?_ | refine xHere ?_
  refine' reg_all hF ?_ mixed (by kernel_rfl) ?_
  rotate_left
  · repeat (first | exact Line.nil | ((refine' Line.cons rfl (.run rfl rfl ?_) ?_); (any_goals (first | exact cMove rfl rfl | exact cAssign rfl rfl | exact cNilOk rfl rfl | exact cPeelM rfl (.l rfl hat) | exact cLoad1 (u := .map (some bm)) rfl (.t rfl) (pts_at _ _) Tryz.underlying176 rfl | exact cLoadSum rfl (.l rfl h5) Tryz.underlying28 sizeS | exact cLookS rfl (.l rfl hmp) rfl)); rotate_left))
  intro a w50 hF hb hN
  have hBs := hB.size
  replace hB := hB.trans (hb.mono hB.size)
  dsimp only [ext, Option.getD] at hF
  repeat with_reducible first | refine wp_seq ?_ | refine nThen ?_
  replace hM := hM.below hb
  have h5 := at5 (hb5.below hb)
  have hat := hM.at_
  refine' region_ty 5 mixed (by kernel_rfl) hF ?_ ?_
  rotate_left
  · simp only [List.take_succ_cons, List.take_zero]
    repeat (first | exact Line.nil | ((refine' Line.cons rfl (.run rfl rfl ?_) ?_); (any_goals (first | exact cMove rfl rfl | exact cNilOk rfl rfl | exact cPeelM rfl (.l rfl hat) | exact cLoad1 (u := .map (some bm)) rfl (.t rfl) (pts_at _ _) Tryz.underlying176 rfl | exact cLoadSum rfl (.l rfl h5) Tryz.underlying28 sizeS)); rotate_left))
  intro a w51 hF hb hN
  have hBs := hB.size
  replace hB := hB.trans (hb.mono hB.size)
  simp only [List.take_succ_cons, List.take_zero, List.drop_succ_cons, List.drop_zero] at hF hN ⊢
  dsimp only [ext, Option.getD] at hF
  replace hM := hM.below hb
  have hL51 : Below lo w w51 := hL40.trans (hB.mono (Nat.le_trans hlo hL40.size))
  refine tlMapPut rfl rfl rfl (hF.getEx (s := 90) rfl) (hF.getEx (s := 91) rfl) rfl hM.had (by simp [maxLen]; omega) ?_
  intro w52 hmap hk52
  have hM := hM.seen hk52 hmap
  have hF := (hF.keep [12]).exs (w' := w52) (exs_cons exs_nil)
  have hL52 : Below lo w w52 := below_lo hL51 hlo hk52 (by intro y hy; simp only [List.mem_singleton] at hy; subst hy; exact ho.bm)
  replace hB := Below.refl w52.heap.size w52
  refine wpList_nil ?_
  repeat with_reducible first | refine wp_seq ?_ | refine nThen ?_
  refine' reg_all hF ?_ mixed (by kernel_rfl) ?_
  rotate_left
  · repeat (first | exact Line.nil | ((refine' Line.cons rfl (.run rfl rfl ?_) ?_); (any_goals (first | exact cMove rfl rfl | exact cAssign rfl rfl | exact cNot rfl rfl)); rotate_left))
  intro a w53 hF hb hN
  have hBs := hB.size
  replace hB := hB.trans (hb.mono hB.size)
  dsimp only [ext, Option.getD] at hF
  repeat with_reducible first | refine nThen ?_ | refine wp_ret ?_
  refine ret1 hF rfl rfl fun z hz => ?_
  exact ⟨z, rfl, hz, hL52.trans (hb.mono (Nat.le_trans hlo hL52.size)), v', S', hM.below hb, hO⟩
end Go.Proofs.YtmefpnklgfhggaaGreatDoor

/- peel.All by types: what it makes and tells. -/
namespace Go.Proofs.YtmefpnklgfhggaaGreatDoor
open Go.RowKit

abbrev nilS : Value := .slice none 0 0
abbrev ResT : TypeId := 136
theorem infoRes : (Tryz.prog.info? ResT).map (fun i => (i.zero, i.size, i.bytes)) = some (some (.agg #[nilS, nilS, .int .u64 0, nilS]), 4, 80) := by kernel_rfl
theorem sizeRes : (Tryz.prog.info? ResT).map (·.size) = some 4 := by kernel_rfl
theorem buildR0 (w : World) : (Instr.build ResT #[]).run Tryz.prog w = .ok (.agg #[nilS, nilS, .int .u64 0, nilS]) w := by kernel_rfl
theorem buildSL2 (w : World) : (Instr.build SL2 #[]).run Tryz.prog w = .ok (.agg #[nilS, nilS]) w := by kernel_rfl
theorem buildRL (n : Int) {s : Value} (hs : ∃ A l c, s = .slice A l c) (w : World) : (Instr.build ResT #[(2, .agg #[.int .u64 n, s])]).run Tryz.prog w = .ok (.agg #[nilS, nilS, .int .u64 n, s]) w := by
  obtain ⟨A, l, c, rfl⟩ := hs
  have hz : (zeroValue ResT).run Tryz.prog w = .ok (.agg #[nilS, nilS, .int .u64 0, nilS]) w := by kernel_rfl
  have hu := run_underlying Tryz.underlying136 w
  simp only [Instr.build, Sem.run_bind, hz, Result.andThen_ok, hu]
  simp [Instr.fill, Value.cells]
theorem buildR (n : Int) {p q s : Value} (hp : ∃ A l c, p = .slice A l c) (hq : ∃ A l c, q = .slice A l c) (hs : ∃ A l c, s = .slice A l c) (w : World) : (Instr.build ResT #[(0, p), (1, q), (2, .agg #[.int .u64 n, s])]).run Tryz.prog w = .ok (.agg #[p, q, .int .u64 n, s]) w := by
  obtain ⟨A, l, c, rfl⟩ := hs
  obtain ⟨A1, l1, c1, rfl⟩ := hp
  obtain ⟨A2, l2, c2, rfl⟩ := hq
  have hz : (zeroValue ResT).run Tryz.prog w = .ok (.agg #[nilS, nilS, .int .u64 0, nilS]) w := by kernel_rfl
  have hu := run_underlying Tryz.underlying136 w
  have h2 := Tryz.sizeOf30 w
  simp only [Instr.build, Sem.run_bind, hz, Result.andThen_ok, hu]
  simp [h2, Instr.fill, Value.cells]
theorem buildPeel (n : Nat) (b : Nat) {s q : Value} (hs : ∃ A l c, s = .slice A l c) (hq : ∃ A l c, q = .slice A l c) (w : World) : (Instr.build PeelT #[(0, .agg #[.int .u64 (n : Int), s]), (1, q), (2, .map (some b)), (3, .agg #[nilS, nilS])]).run Tryz.prog w = .ok (.agg (peelCells n s q b nilS nilS).toArray) w := by
  obtain ⟨A, l, c, rfl⟩ := hs
  obtain ⟨A1, l1, c1, rfl⟩ := hq
  have hz : (zeroValue PeelT).run Tryz.prog w = .ok (.agg #[.int .u64 0, nilS, nilS, .map none, nilS, nilS]) w := by kernel_rfl
  have hu := run_underlying Tryz.underlying179 w
  have h1 := Tryz.sizeOf40 w
  simp only [Instr.build, Sem.run_bind, hz, Result.andThen_ok, hu]
  simp [h1, Instr.fill, Value.cells, peelCells]
/-- A result, as it reads. -/
def Ty.res (P M : List Sm) (sd : Nat) (L : List Cl) : Ty := ⟨fun w v => ∃ p q s, v = .agg #[p, q, .int .u64 (sd : Int), s] ∧ SlP w 28 p P.length (flat P) ∧ SlP w 28 q M.length (flat M) ∧ SlP w 69 s L.length (flatC L), fun t => t == 28 || t == 69, fun {w w' v G} ⟨p, q, s, h1, h2, h3, h4⟩ k hA => by
  have a1 : Apart w G (fun t => t == 28) := fun b hb hl => let ⟨cs, t, fr, k1, k2⟩ := hA b hb hl; ⟨cs, t, fr, k1, by simp only [Bool.or_eq_false_iff] at k2; exact k2.1⟩
  have a2 : Apart w G (fun t => t == 69) := fun b hb hl => let ⟨cs, t, fr, k1, k2⟩ := hA b hb hl; ⟨cs, t, fr, k1, by simp only [Bool.or_eq_false_iff] at k2; exact k2.2⟩
  exact ⟨p, q, s, h1, (Ty.sums 28 P).st h2 k a1, (Ty.sums 28 M).st h3 k a1, (Ty.cls 69 L).st h4 k a2⟩⟩
/-- Blocks of a type that is hung upon stand. -/
theorem Seg.keepA {w w' : World} {e : TypeId} {sz n : Nat} {v : Value} {xs : List Value} {S G : List Nat} {el : TypeId → Bool} (h : Seg w e sz v n xs S) (k : Keeps G w w') (hA : Apart w G el) (he : el e = true) : Seg w' e sz v n xs S := h.keeps k fun y hy hm => by
  obtain ⟨cs, fr, k1⟩ := h.blocks y hy (h.lt y hy)
  obtain ⟨cs', t, fr', k2, k3⟩ := hA y hm (h.lt y hy)
  rw [k1] at k2
  simp only [Option.some.injEq, Obj.cells.injEq] at k2
  rw [← k2.2.1, he] at k3
  cases k3
theorem MapIs.keepA {w w' : World} {b n : Nat} {S : List Sm} {G : List Nat} {el : TypeId → Bool} (h : MapIs w b n S) (k : Keeps G w w') (hA : Apart w G el) : MapIs w' b n S := h.keeps k fun hm => by
  obtain ⟨cs, t, fr, h3, _⟩ := hA b hm h.lt
  obtain ⟨es, clock, h4⟩ := h.obj
  rw [h4] at h3
  cases h3
/-- A map of one's own, new. -/
def Ty.mapO (w0 : World) : Ty := ⟨fun w v => ∃ b, v = .map (some b) ∧ w0.heap.size ≤ b ∧ MapIs w b 0 [], fun _ => false, fun ⟨b, h1, h2, h3⟩ k hA => ⟨b, h1, h2, h3.keepA k hA⟩⟩
/-- A peeler's parts, as a value. -/
def Ty.peelV (w0 : World) (seed : Nat) (L : List Cl) : Ty := ⟨fun w v => ∃ s q b SL SP, v = .agg (peelCells seed s q b nilS nilS).toArray ∧ Seg w 69 65 s L.length (flatC L) SL ∧ Seg w 4 1 q L.length ((List.replicate L.length false).map bvl) SP ∧ MapIs w b 0 [] ∧ w0.heap.size ≤ b ∧ (∀ y ∈ SL, w0.heap.size ≤ y) ∧ ∀ y ∈ SP, w0.heap.size ≤ y, fun t => t == 69 || t == 4, fun ⟨s, q, b, SL, SP, h1, h2, h3, h4, h5, h6, h7⟩ k hA => ⟨s, q, b, SL, SP, h1, h2.keepA k hA (by simp), h3.keepA k hA (by simp), h4.keepA k hA, h5, h6, h7⟩⟩
def Ty.peelP (w0 : World) (seed : Nat) (L : List Cl) : Ty := ⟨fun w v => ∃ g s q b SL SP, v = .pointer (some ⟨g, 0, none⟩) ∧ PeelMem w g seed s q b nilS nilS L (List.replicate L.length false) [] [] [] SL SP [] [] 0 ∧ PeelOwn w0.heap.size g b SL SP [] [], fun t => t == PeelT || t == 69 || t == 4, fun {w w' v G} ⟨g, s, q, b, SL, SP, h1, h2, h3⟩ k hA => by
  refine ⟨g, s, q, b, SL, SP, h1, ⟨h2.blk.keeps k fun hm => ?_, h2.tab.keepA k hA (by simp), h2.pure.keepA k hA (by simp), h2.had.keepA k hA, h2.minus.keeps k (by simp), h2.plus.keeps k (by simp), h2.apart⟩, h3⟩
  obtain ⟨cs', t, fr', k2, k3⟩ := hA g hm h2.blk.lt
  have hb := h2.blk
  unfold Blk at hb
  rw [hb] at k2
  simp only [Option.some.injEq, Obj.cells.injEq] at k2
  rw [← k2.2.1] at k3
  simp at k3⟩
section
variable {w0 : World} {Γ : Ctx} {o : Oper}
theorem cMakeMapS (ho : o.op = .makeMap MapSB none) : OpOk Tryz.prog w0 Γ o (Ty.mapO w0) :=
  .new fun a w hb _ => ⟨.map (some w.heap.size), w.alloc (.map #[] 0), ⟨_, rfl, hb.size, MapIs.made w⟩, ((Keeps.refl [] w).alloc _).below, by
    unfold execOp
    simp only [ho]
    simp [run_makeSB]⟩
theorem infoBool : (Tryz.prog.info? 4).map (fun i => (i.zero, i.size, i.bytes)) = some (some (.bool false), 1, 1) := by kernel_rfl
theorem made_bools (n : Nat) : (madeCells (Value.bool false).cells (n * 1)).toList = (List.replicate n false).map bvl := by
  rw [Nat.mul_one]
  simp only [madeCells, Value.cells, bvl, List.map_replicate]
  refine List.eq_replicate_iff.2 ⟨by simp, fun b hb => ?_⟩
  simp only [Array.toList_map, Array.toList_range, List.mem_map] at hb
  obtain ⟨x, _, rfl⟩ := hb
  show #[Value.bool false][x % 1]! = Value.bool false
  rw [Nat.mod_one]; rfl
theorem run_makeBools {P : Program} {t e : TypeId} (n : Nat) (hn : n ≤ 1000000) (ht : P.underlying t = some (.slice e)) (hi : (P.info? e).map (fun i => (i.zero, i.size, i.bytes)) = some (some (.bool false), 1, 1)) (w : World) :
    (Instr.makeSlice t (.int .i64 (n : Int)) (.int .i64 (n : Int))).run P w = .ok (.slice (some ⟨w.heap.size, 0, none⟩) n n) (w.alloc (.cells ((List.replicate n false).map bvl).toArray e)) := by
  obtain ⟨i, h1, h2, h3, h4⟩ := info_parts hi
  have h := run_make (P := P) w t e i _ ht h1 h2 .i64 .i64 (n : Int) (n : Int) (by omega) (Int.le_refl _) (by rw [h4]; omega) (by omega)
  rw [Int.toNat_natCast, h3] at h
  rw [h]
  congr 3
  exact Array.toList_inj.1 (by rw [made_bools])
theorem cMakeBools {x y : Operand} {n : Nat} (ho : o.op = .makeSlice 175 x y) (hx : OpT Γ x (Ty.ex (.int .i64 (n : Int)))) (hy : OpT Γ y (Ty.ex (.int .i64 (n : Int)))) (hn : n ≤ 1000000) : OpOk Tryz.prog w0 Γ o (Ty.seg w0 4 1 n ((List.replicate n false).map bvl)) :=
  .new fun a w hb hs => by
    obtain ⟨u, h1, h2⟩ := hs x _ (by simp [ho, Op.operands]) hx
    obtain ⟨u', h3, h4⟩ := hs y _ (by simp [ho, Op.operands]) hy
    have h2 : u = .int .i64 (n : Int) := h2
    have h4 : u' = .int .i64 (n : Int) := h4
    refine ⟨.slice (some ⟨w.heap.size, 0, none⟩) n n, w.alloc (.cells ((List.replicate n false).map bvl).toArray 4), ⟨[w.heap.size], ?_, fun y hy => ?_⟩, ((Keeps.refl [] w).alloc _).below, ?_⟩
    · have h := Seg.ofBlk (w := w.alloc (.cells ((List.replicate n false).map bvl).toArray 4)) (sz := 1) (cap := n) (Blk.new w 4 ((List.replicate n false).map bvl).toArray) (by simp) (by simp [maxLen]; omega)
      simpa using h
    · simp only [List.mem_singleton] at hy
      subst hy
      exact hb.size
    · unfold execOp
      simp [ho, h1, h2, h3, h4, run_makeBools n hn Tryz.underlying175 infoBool]
theorem cBuildPeel {x y z u : Operand} {seed : Nat} {L : List Cl} (ho : o.op = .build PeelT #[(0, x), (1, y), (2, z), (3, u)]) (hx : OpT Γ x (Ty.tabO w0 69 seed L)) (hy : OpT Γ y (Ty.seg w0 4 1 L.length ((List.replicate L.length false).map bvl))) (hz : OpT Γ z (Ty.mapO w0)) (hu : OpT Γ u (Ty.ex (.agg #[nilS, nilS]))) : OpOk Tryz.prog w0 Γ o (Ty.peelV w0 seed L) :=
  .val fun a w hb hs => by
    obtain ⟨v, h1, s, rfl, SL, h2, h3⟩ := hs x _ (by simp [ho, Op.operands]) hx
    obtain ⟨q, h4, SP, h5, h6⟩ := hs y _ (by simp [ho, Op.operands]) hy
    obtain ⟨m, h7, b, rfl, h8, h9⟩ := hs z _ (by simp [ho, Op.operands]) hz
    obtain ⟨e, h10, h11⟩ := hs u _ (by simp [ho, Op.operands]) hu
    have h11 : e = .agg #[nilS, nilS] := h11
    subst h11
    refine ⟨_, ⟨s, q, b, SL, SP, rfl, h2, h5, h9, h8, h3, h6⟩, ?_⟩
    unfold execOp
    simp only [ho]
    have e1 : ((#[(0, x), (1, y), (2, z), (3, u)] : Array (Nat × Operand)).map fun (i, x) => (i, a.eval x)) = #[(0, .agg #[.int .u64 (seed : Int), s]), (1, q), (2, .map (some b)), (3, .agg #[nilS, nilS])] := by simp [h1, h4, h7, h10]
    rw [e1, Sem.run_bind, buildPeel seed b (seg_isA h2) (seg_isA h5) w]
    rfl
theorem cBoxPeel {x : Operand} {seed : Nat} {L : List Cl} (ho : o.op = .box PeelT x) (hx : OpT Γ x (Ty.peelV w0 seed L)) : OpOk Tryz.prog w0 Γ o (Ty.peelP w0 seed L) :=
  .new fun a w hb hs => by
    obtain ⟨u, h1, s, q, b, SL, SP, rfl, h2, h3, h4, h5, h6, h7⟩ := hs x _ (by simp [ho, Op.operands]) hx
    have hbl : Below w.heap.size w (w.alloc (.cells (peelCells seed s q b nilS nilS).toArray PeelT)) := ((Keeps.refl [] w).alloc _).below
    refine ⟨.pointer (some ⟨w.heap.size, 0, none⟩), w.alloc (.cells (peelCells seed s q b nilS nilS).toArray PeelT), ⟨_, s, q, b, SL, SP, rfl, ⟨Blk.new w _ _, h2.below hbl, h3.below hbl, h4.keeps (Keeps.of_below (S := []) hbl) (by simp), Seg.nil _ _ _, Seg.nil _ _ _, by simp⟩, ⟨hb.size, h5, h6, h7, by simp, by simp⟩⟩, hbl, ?_⟩
    unfold execOp
    simp only [ho, h1]
    simp [Instr.box, newVar, newRow, go_sem, Value.cells]
end
end Go.Proofs.YtmefpnklgfhggaaGreatDoor

/- peel.All by types: the walk. -/
namespace Go.Proofs.YtmefpnklgfhggaaGreatDoor
open Go.RowKit

theorem sl_nil (w : World) (e : TypeId) : SlP w e nilS 0 [] := (Seg.nil w e 1).sl
section
variable {P : Program} {ops : Array Oper} {Q : Exit → Act → World → Prop} {N : Nat} {Γ : Ctx} {a : Act} {w : World} {o : Oper} {rest : List Oper}
/-- An operation whose guard says no. -/
theorem tlOpN {j s d : Nat} {b c : Bool} (hF : Fr N Γ a w) (hg : o.guard = some (j, c)) (hj : slotOf ops j = some s) (hs : look Γ s = some (Ty.ex (.bool b))) (hbc : (b == c) = false) (hd : o.dst = some d) (hN : decide (d < N) = true) (hk : ∀ a', Fr N ((d, Ty.ex undef) :: Γ) a' w → wpList P ops Q rest a' w) : wpList P ops Q (o :: rest) a w := by
  refine wpList_step fun K hK => ?_
  obtain ⟨v, hv, e⟩ := hF.val s _ hs
  have e : v = .bool b := e
  subst e
  rw [if_neg (by cases b <;> cases c <;> simp at hbc <;> simp [Region.wanted, hg, yielded_of hj hv])]
  rw [hd]
  exact hK _ _ (hk _ (hF.put (of_decide_eq_true hN) (Below.refl _ _) rfl))
end
section
variable {w0 : World} {Γ : Ctx} {o : Oper}
theorem cBuildI {P : Program} {t : TypeId} {i : Nat} {x : Operand} {v z : Value} (ho : o.op = .build t #[(i, x)]) (hx : OpT Γ x (Ty.ex v)) (hr : ∀ w : World, (Instr.build t #[(i, v)]).run P w = .ok z w) : OpOk P w0 Γ o (Ty.ex z) :=
  .val fun a w _ hs => by
    obtain ⟨u, h1, h2⟩ := hs x _ (by simp [ho, Op.operands]) hx
    have h2 : u = v := h2
    subst h2
    refine ⟨_, rfl, ?_⟩
    unfold execOp
    simp [ho, h1, hr]
theorem cBuildRes {x y z : Operand} {P M : List Sm} {seed : Nat} {s : Value} {L : List Cl} {n1 n2 : Nat} (ho : o.op = .build ResT #[(0, x), (1, y), (2, z)]) (hx : OpT Γ x (Ty.seg w0 28 32 n1 (flat P))) (hy : OpT Γ y (Ty.seg w0 28 32 n2 (flat M))) (hz : OpT Γ z (Ty.ex (.agg #[.int .u64 (seed : Int), s]))) (hs : SlP w0 69 s L.length (flatC L)) (h1 : n1 = P.length) (h2 : n2 = M.length) : OpOk Tryz.prog w0 Γ o (Ty.res P M seed L) :=
  .val fun a w hb hs' => by
    subst h1 h2
    obtain ⟨p, k1, S1, k2, _⟩ := hs' x _ (by simp [ho, Op.operands]) hx
    obtain ⟨q, k3, S2, k4, _⟩ := hs' y _ (by simp [ho, Op.operands]) hy
    obtain ⟨e, k5, k6⟩ := hs' z _ (by simp [ho, Op.operands]) hz
    have k6 : e = .agg #[.int .u64 (seed : Int), s] := k6
    subst k6
    refine ⟨_, ⟨p, q, s, rfl, k2.sl, k4.sl, (Ty.cls 69 L).below hs hb⟩, ?_⟩
    unfold execOp
    simp only [ho]
    have e1 : ((#[(0, x), (1, y), (2, z)] : Array (Nat × Operand)).map fun (i, x) => (i, a.eval x)) = #[(0, p), (1, q), (2, .agg #[.int .u64 (seed : Int), s])] := by simp [k1, k3, k5]
    rw [e1, Sem.run_bind, buildR (seed : Int) (seg_isA k2) (seg_isA k4) (sl_isA hs) w]
    rfl
end
theorem run_stop {seed m : Nat} {s : Pst} (h : ¬ nextI seed s.L < s.L.length) : Pst.run seed m s = s := by
  cases m with
  | zero => rfl
  | succ m => unfold Pst.run; rw [if_neg h]
theorem mem_plus {x y : Sm} {p q S : List Sm} (h : y ∈ S ↔ y ∈ p ∨ y ∈ q) : y ∈ x :: S ↔ y ∈ p ++ [x] ∨ y ∈ q := by
  simp only [List.mem_cons, List.mem_append, List.not_mem_nil, or_false, h]
  by_cases a : y = x <;> by_cases b : y ∈ p <;> by_cases c : y ∈ q <;> simp [a, b, c]
theorem mem_minus {x y : Sm} {p q S : List Sm} (h : y ∈ S ↔ y ∈ p ∨ y ∈ q) : y ∈ x :: S ↔ y ∈ p ∨ y ∈ q ++ [x] := by
  simp only [List.mem_cons, List.mem_append, List.not_mem_nil, or_false, h]
  by_cases a : y = x <;> by_cases b : y ∈ p <;> by_cases c : y ∈ q <;> simp [a, b, c]
theorem res_one {n : Int} {p q s : Value} (hp : ∃ A l c, p = .slice A l c) (hq : ∃ A l c, q = .slice A l c) (hs : ∃ A l c, s = .slice A l c) : (Value.agg #[p, q, .int .u64 n, s]).cells.all (·.oneCell') = true := by
  obtain ⟨A, l, c, rfl⟩ := hs
  obtain ⟨A1, l1, c1, rfl⟩ := hp
  obtain ⟨A2, l2, c2, rfl⟩ := hq
  simp [Value.cells, Value.oneCell']
theorem hatT {seed bm : Nat} {sL sP s0 s1 : Value} : ∀ w v, (Ty.at_ PeelT (peelCells seed sL sP bm s0 s1)).p w v → (Ty.at_ PeelT [.int .u64 (seed : Int), sL]).p w v := fun w v h => at_pre (xs := [.int .u64 (seed : Int), sL]) (ys := [sP, .map (some bm), s0, s1]) w v h
set_option maxRecDepth 100000 in
set_option maxHeartbeats 8000000 in
theorem pall_ty (seed : Nat) (L : List Cl) (hsd : seed < 18446744073709551616) : Fn1 Tryz.prog 72 (Ty.tab 69 seed L) (Ty.tup [Ty.res (resP seed L) (resM seed L) (resS seed L) (resL seed L), Ty.ex (.int .i64 (resN seed L))]) := by
  refine ⟨fun args w => by kernel_rfl, fun w v ⟨s, hv, hs⟩ => ?_⟩
  subst hv
  have hG := tgood_ty seed L
  refine enter_ty 88 [Ty.ex (.agg #[.int .u64 (seed : Int), s])] Tryz.func72 rfl (by kernel_rfl) ⟨rfl, trivial⟩ fun a hF => ?_
  have hB := Below.refl w.heap.size w
  let TL := Ty.cls 69 L
  repeat with_reducible refine wp_seq ?_
  refine' reg_all hF ?_ mixed (by kernel_rfl) ?_
  rotate_left
  · repeat (first
        | exact Line.nil
        | (refine' Line.cons rfl (.new rfl rfl (run_alloc_i infoRes) rfl) ?_; rotate_left)
        | ((refine' Line.cons rfl (.run rfl rfl ?_) ?_)
           any_goals (first | exact cAssign rfl rfl | exact cBoxTab rfl rfl)
           rotate_left))
  intro a w1 hF hb hN
  have hBs := hB.size
  replace hB := hB.trans (hb.mono hB.size)
  dsimp only [ext, Option.getD] at hF
  repeat with_reducible first | refine wp_seq ?_ | refine nThen ?_
  obtain ⟨z, ⟨g2, rfl, hg2, hb2⟩, hF⟩ := hF.open (s := 2) rfl
  have hg2 : w.heap.size ≤ g2 := hg2
  have hs1 := TL.below hs hB
  have ht1 : (Ty.tab 69 seed L).p w1 (.agg #[.int .u64 (seed : Int), s]) := ⟨s, rfl, hs1⟩
  by_cases hok : goodN (L.length : Int) = true
  rotate_left
  · have hok : goodN (L.length : Int) = false := by simpa using hok
    have hpk : peelOk seed L = false := by unfold peelOk; rw [hok]; rfl
    rw [show resP seed L = [] by unfold resP; rw [hpk]; rfl, show resM seed L = [] by unfold resM; rw [hpk]; rfl, show resS seed L = 0 by unfold resS; rw [hok]; rfl, show resL seed L = [] by unfold resL; rw [hok]; rfl, show resN seed L = 1 by unfold resN; rw [hok]; rfl]
    rw [hok] at hG
    refine' reg_all hF ?_ mixed (by kernel_rfl) ?_
    rotate_left
    · repeat (first | exact Line.nil | ((refine' Line.cons rfl (.run rfl rfl ?_) ?_); (any_goals (first | exact cNot rfl rfl | exact cLoadT46 rfl (.t rfl) | exact cCallH1 rfl (.l rfl ht1) hG)); rotate_left))
    intro a w2 hF hb hN
    have hBs := hB.size
    replace hB := hB.trans (hb.mono hB.size)
    dsimp only [ext, Option.getD] at hF
    repeat with_reducible refine nThen ?_
    refine cond_t hF rfl ?_
    repeat with_reducible refine wp_seq ?_
    replace hb2 := hb2.below hb
    refine' region_ty 1 mixed (by kernel_rfl) hF ?_ ?_
    rotate_left
    · simp only [List.take_succ_cons, List.take_zero]
      repeat (first | exact Line.nil | ((refine' Line.cons rfl (.run rfl rfl ?_) ?_); (any_goals exact cBuildE rfl (fun w => buildR0 w)); rotate_left))
    intro a w3 hF hb hN
    have hBs := hB.size
    replace hB := hB.trans (hb.mono hB.size)
    simp only [List.take_succ_cons, List.take_zero, List.drop_succ_cons, List.drop_zero] at hF hN ⊢
    dsimp only [ext, Option.getD] at hF
    replace hb2 := hb2.below hb
    refine tlStoreV (Δ := [(2, Ty.ex (.pointer (some ⟨g2, 0, none⟩)))]) hF rfl rfl rfl rfl (hF.getEx (s := 12) rfl) hb2 rfl sizeRes (by simp [Value.cells, Value.oneCell']) (hF.keep [2]) rfl ?_
    intro w4 hF hb2 hkx
    replace hB := below_own hB hkx (by intro y hy; simp only [List.mem_singleton] at hy; omega)
    refine' tlOp hF rfl rfl rfl ?_ ?_
    rotate_left
    · exact cAssign rfl rfl
    intro a w5 hF hb
    have hBs := hB.size
    replace hB := hB.trans (hb.mono hB.size)
    try (refine wpList_nil ?_)
    repeat with_reducible first | refine nThen ?_ | refine wp_ret ?_ | refine rThen ?_
    refine retCell2 hF rfl rfl rfl (hb2.below hb) Tryz.underlying136 rfl sizeRes ?_
    exact ⟨_, rfl, ⟨[_, _], rfl, ⟨nilS, nilS, nilS, rfl, sl_nil _ _, sl_nil _ _, sl_nil _ _⟩, rfl, trivial⟩, hB⟩
  rw [hok] at hG
  refine' reg_all hF ?_ mixed (by kernel_rfl) ?_
  rotate_left
  · repeat (first | exact Line.nil | ((refine' Line.cons rfl (.run rfl rfl ?_) ?_); (any_goals (first | exact cNot rfl rfl | exact cLoadT46 rfl (.t rfl) | exact cCallH1 rfl (.l rfl ht1) hG)); rotate_left))
  intro a w2 hF hb hN
  have hBs := hB.size
  replace hB := hB.trans (hb.mono hB.size)
  dsimp only [ext, Option.getD] at hF
  repeat with_reducible refine nThen ?_
  replace hb2 := hb2.below hb
  refine cond_f hF rfl ?_
  repeat with_reducible first | refine wp_seq ?_ | refine nThen ?_ | refine wp_skip ?_
  obtain ⟨N, hN, hN1, hN2⟩ := goodN_rng hok
  have hLl : L.length ≤ 1024 := by omega
  have hs2 := TL.below hs hB
  obtain ⟨p1, hp1, hF⟩ := hF.open (s := 1) rfl
  clear hs hs1 ht1 hG
  have hw2 := hB.size
  have hB0 := hB
  obtain ⟨lo, elo⟩ : ∃ lo, lo = w2.heap.size := ⟨_, rfl⟩
  replace hB := Below.refl w2.heap.size w2
  refine' reg_all hF ?_ mixed (by kernel_rfl) ?_
  rotate_left
  · repeat (first | exact Line.nil | ((refine' Line.cons rfl (.run rfl rfl ?_) ?_); (any_goals (first | exact cAssign rfl rfl | exact cFldS46 rfl (.l rfl hp1) | exact cLoadU64 rfl (.t rfl) | exact cFldL46 rfl (.l rfl hp1) | exact cRowOf46 rfl (.t rfl) | exact cCallS1 rfl (.l rfl hs2) (cloneC_ty L (by omega)) | exact cBuildTabO (L := L) rfl rfl rfl (fun s hs w => buildT46 _ hs w) | exact cLenH rfl (.l rfl hs2) (Ty.sl_isSl _ _ _) Tryz.underlying38 | exact cMakeBools rfl rfl rfl (by omega) | exact cMakeMapS rfl | exact cBuildE rfl (fun w => buildSL2 w) | exact cBuildPeel (L := L) (seed := seed) rfl rfl rfl rfl rfl | exact cBoxPeel rfl rfl)); rotate_left))
  intro a w3 hF hb hN
  have hBs := hB.size
  replace hB := hB.trans (hb.mono hB.size)
  dsimp only [ext, Option.getD] at hF
  repeat with_reducible first | refine wp_seq ?_ | refine nThen ?_
  obtain ⟨z, ⟨gp, sL, sP, bm, SL, SP, rfl, hM, hO⟩, hF⟩ := hF.open (s := 4) rfl
  rw [← elo] at hO hB
  have hL := hB
  have hg2l : g2 < lo := by rw [elo]; exact hb2.lt
  clear hs2 hp1
  have hat := hM.at_
  have hsP := hM.pure.sl
  replace hB := Below.refl w3.heap.size w3
  refine' reg_all hF ?_ mixed (by kernel_rfl) ?_
  rotate_left
  · repeat (first | exact Line.nil | ((refine' Line.cons rfl (.run rfl rfl ?_) ?_); (any_goals (first | exact cMove rfl rfl | exact cNilOk rfl rfl | exact cPeelP rfl (.l rfl hat) | exact cLoad1 (u := sP) rfl (.t rfl) (pts_at _ _) Tryz.underlying175 rfl | exact cLenH rfl (.l rfl hsP) (Ty.sl_isSl _ _ _) Tryz.underlying175)); rotate_left))
  intro a w4 hF hb hN
  have hBs := hB.size
  replace hB := hB.trans (hb.mono hB.size)
  dsimp only [ext, Option.getD] at hF
  repeat with_reducible first | refine nThen ?_ | refine wp_block ?_
  replace hM := hM.below hb
  have hlo4 : lo ≤ w3.heap.size := by rw [elo]; exact hL.size
  replace hL := hL.trans (hb.mono hlo4)
  have hen : Enters Tryz.prog 104 := fun args w => by kernel_rfl
  have het : Enters Tryz.prog 106 := fun args w => by kernel_rfl
  refine loop_ty (fun m a wr => ∃ i : Nat, i + m = L.length ∧ Fr 88 [(2, Ty.ex (.pointer (some ⟨g2, 0, none⟩))), (4, Ty.ex (.pointer (some ⟨gp, 0, none⟩))), (31, Ty.ex (.int .i64 (L.length : Int))), (32, Ty.ex (.int .i64 (i : Int)))] a wr ∧ Below lo w2 wr ∧ PeelMem wr gp seed sL sP bm nilS nilS L (mixB seed L i) [] [] [] SL SP [] [] 0) L.length ?_ ?_
  · exact ⟨0, by omega, hF.keep [2, 4, 31, 32], hL, by rw [mixB_zero]; exact hM⟩
  clear hF hB hL hM hat hsP hb hBs
  rintro m a wr ⟨i, hi, hF, hL, hM⟩
  have hB := Below.refl wr.heap.size wr
  have hlor : lo ≤ wr.heap.size := by rw [elo]; exact hL.size
  have hL0 := hL
  repeat with_reducible refine wp_seq ?_
  refine' reg_all hF ?_ mixed (by kernel_rfl) ?_
  rotate_left
  · repeat (first | exact Line.nil | ((refine' Line.cons rfl (.run rfl rfl ?_) ?_); (any_goals exact cLss rfl rfl rfl); rotate_left))
  intro a w10 hF hb hN
  have hBs := hB.size
  replace hB := hB.trans (hb.mono hB.size)
  dsimp only [ext, Option.getD] at hF
  repeat with_reducible first | refine wp_seq ?_ | refine nThen ?_
  replace hM := hM.below hb
  replace hL := hL.trans (hb.mono hlor)
  refine cond_ty hF rfl (fun hlt => ?_) (fun hge => ?_)
  · have hlt : i < L.length := by have := of_decide_eq_true hlt; omega
    repeat with_reducible first | refine wp_seq ?_ | refine nThen ?_ | refine wp_skip ?_ | refine wp_block ?_
    refine' reg_all hF ?_ mixed (by kernel_rfl) ?_
    rotate_left
    · repeat (first | exact Line.nil | ((refine' Line.cons rfl (.run rfl rfl ?_) ?_); (any_goals (first | exact cMove rfl rfl | exact cAssign rfl rfl)); rotate_left))
    intro a w11 hF hb hN
    have hBs := hB.size
    replace hB := hB.trans (hb.mono hB.size)
    dsimp only [ext, Option.getD] at hF
    repeat with_reducible refine nThen ?_
    replace hM := hM.below hb
    have hlo11 : lo ≤ w11.heap.size := Nat.le_trans hlor hB.size
    refine' region_ty 2 mixed (by kernel_rfl) hF ?_ ?_
    rotate_left
    · simp only [List.take_succ_cons, List.take_zero]
      repeat (first | exact Line.nil | ((refine' Line.cons rfl (.run rfl rfl ?_) ?_); (any_goals exact cMove rfl rfl); rotate_left))
    intro a w12 hF hb hN
    have hBs := hB.size
    replace hB := hB.trans (hb.mono hB.size)
    simp only [List.take_succ_cons, List.take_zero, List.drop_succ_cons, List.drop_zero] at hF hN ⊢
    dsimp only [ext, Option.getD] at hF
    replace hM := hM.below hb
    replace hL : Below lo w2 w12 := hL0.trans (hB.mono hlor)
    have hlk := look_any hM (mixB_len (by omega)) hsd (i := i) hlt
    rw [mixB_set hlt] at hlk
    refine tlCall rfl rfl rfl (args := #[.pointer (some ⟨gp, 0, none⟩), ivn i]) ?_ hen (R := fun u w' => PeelMem w' gp seed sL sP bm nilS nilS L (mixB seed L (i + 1)) [] [] [] SL SP [] [] 0 ∧ Keeps SP w12 w') ?_ ?_
    · simp only [List.map_toArray, List.map_cons, List.map_nil, hF.getEx (s := 35) rfl, hF.getEx (s := 36) rfl]; rfl
    · exact hlk.mono fun e w' ⟨h1, h2, h3⟩ => ⟨_, h1, h2, h3⟩
    rintro z w13 ⟨hM2, hk13⟩
    have hF := ((hF.keep [2, 4, 31, 32]).keepSeg hk13 hM.pure rfl).put (d := 37) (by decide) (Below.refl _ _) (V := Ty.ex z) rfl
    have hlo12 : lo ≤ w12.heap.size := Nat.le_trans hlor hB.size
    replace hL := below_lo hL (by rw [elo]; exact Nat.le_refl _) hk13 hO.pure
    replace hB := Below.refl w13.heap.size w13
    have hlo13 : lo ≤ w13.heap.size := by rw [elo]; exact hL.size
    refine wpList_nil ?_
    repeat with_reducible first | refine nThen ?_ | refine nBlk ?_
    refine' reg_all hF ?_ mixed (by kernel_rfl) ?_
    rotate_left
    · repeat (first | exact Line.nil | ((refine' Line.cons rfl (.run rfl rfl ?_) ?_); (any_goals (first | exact cMove rfl rfl | exact cAdd (r := ((i + 1 : Nat) : Int)) rfl rfl rfl (by omega))); rotate_left))
    intro a w14 hF hb hN
    have hBs := hB.size
    replace hB := hB.trans (hb.mono hB.size)
    dsimp only [ext, Option.getD] at hF
    repeat with_reducible refine nThen ?_
    exact ⟨m - 1, by omega, i + 1, by omega, hF.keep [2, 4, 31, 32], hL.trans (hb.mono hlo13), hM2.below hb⟩
  have hge : ¬ i < L.length := by have := of_decide_eq_false hge; omega
  obtain rfl : i = L.length := by omega
  rw [mixB_all] at hM
  repeat with_reducible first | refine wp_seq ?_ | refine nThen ?_ | refine wp_exit ?_ | refine xThen ?_ | refine xHere ?_
  have hlo10 : lo ≤ w10.heap.size := Nat.le_trans hlor hB.size
  replace hB := Below.refl w10.heap.size w10
  refine' reg_all hF ?_ mixed (by kernel_rfl) ?_
  rotate_left
  · repeat (first | exact Line.nil | ((refine' Line.cons rfl (.run rfl rfl ?_) ?_); (any_goals exact cAssign rfl rfl); rotate_left))
  intro a w20 hF hb hN
  have hBs := hB.size
  replace hB := hB.trans (hb.mono hB.size)
  dsimp only [ext, Option.getD] at hF
  repeat with_reducible first | refine wp_seq ?_ | refine nThen ?_
  refine' reg_all hF ?_ mixed (by kernel_rfl) ?_
  rotate_left
  · repeat (first | exact Line.nil | ((refine' Line.cons rfl (.run rfl rfl ?_) ?_); (any_goals exact cAssign rfl rfl); rotate_left))
  intro a w21 hF hb hN
  have hBs := hB.size
  replace hB := hB.trans (hb.mono hB.size)
  dsimp only [ext, Option.getD] at hF
  repeat with_reducible first | refine nThen ?_ | refine wp_block ?_
  replace hM := hM.below hB
  replace hL := hL.trans (hB.mono hlo10)
  refine wp_mono (Q := fun e a w' => e = .exit 2 ∧ ∃ S s0 s1 S0 S1 n, Fr 88 [(2, Ty.ex (.pointer (some ⟨g2, 0, none⟩))), (4, Ty.ex (.pointer (some ⟨gp, 0, none⟩))), (6, Ty.ex (.bool (peelS seed L).once))] a w' ∧ Below lo w2 w' ∧ PeelMem w' gp seed sL sP bm s0 s1 (peelS seed L).L (pureB seed (peelS seed L).L) S (peelS seed L).minus (peelS seed L).plus SL SP S0 S1 n) ?_ ?_
  · refine loop_ty (fun m a wr => ∃ (n : Nat) (st : Pst) (S : List Sm) (s0 s1 : Value) (S0 S1 : List Nat), n + m = 1025 ∧ Fr 88 [(2, Ty.ex (.pointer (some ⟨g2, 0, none⟩))), (4, Ty.ex (.pointer (some ⟨gp, 0, none⟩))), (6, Ty.ex (.bool st.once)), (7, Ty.ex (.int .i64 (n : Int)))] a wr ∧ Below lo w2 wr ∧ PeelMem wr gp seed sL sP bm s0 s1 st.L (pureB seed st.L) S st.minus st.plus SL SP S0 S1 n ∧ PeelOwn lo gp bm SL SP S0 S1 ∧ (∀ y, y ∈ S ↔ y ∈ st.plus ∨ y ∈ st.minus) ∧ st.L.length = L.length ∧ Pst.run seed m st = peelS seed L ∧ st.plus.length + st.minus.length = n) 1025 ?_ ?_
    · exact ⟨0, ⟨L, [], [], true⟩, [], nilS, nilS, [], [], rfl, hF.keep [2, 4, 6, 7], hL, hM, hO, by simp, rfl, rfl, rfl⟩
    clear hF hB hL hM hO hb hBs
    rintro m a wr ⟨n, st, S, s0, s1, S0, S1, hn, hF, hL, hM, hO, hS, hlen, hrun, hcnt⟩
    have hB := Below.refl wr.heap.size wr
    have hlor : lo ≤ wr.heap.size := by rw [elo]; exact hL.size
    repeat with_reducible refine wp_seq ?_
    refine' reg_all hF ?_ mixed (by kernel_rfl) ?_
    rotate_left
    · repeat (first | exact Line.nil | ((refine' Line.cons rfl (.run rfl rfl ?_) ?_); (any_goals (first | exact cMove rfl rfl | exact cLeq rfl rfl rfl)); rotate_left))
    intro a w30 hF hb hN
    have hBs := hB.size
    replace hB := hB.trans (hb.mono hB.size)
    dsimp only [ext, Option.getD] at hF
    repeat with_reducible refine nThen ?_
    replace hM := hM.below hb
    replace hL := hL.trans (hb.mono hlor)
    have hlo30 : lo ≤ w30.heap.size := Nat.le_trans hlor hB.size
    refine cond_ty hF rfl (fun hle => ?_) (fun hgt => ?_)
    · have hle : n ≤ 1024 := by have := of_decide_eq_true hle; omega
      have hI := idxBool_ty (pureB seed st.L) true (by rw [pureB_len]; omega)
      rw [idx_pure] at hI
      have hat := hM.at_
      have hsP : (Ty.sl 4 (pureB seed st.L).length ((pureB seed st.L).map bvl)).p w30 sP := by rw [pureB_len]; exact hM.pure.sl
      replace hB := Below.refl w30.heap.size w30
      by_cases hlt : nextI seed st.L < st.L.length
      · rw [if_pos hlt] at hI
        have hpu := (next_at (seed := seed) hlt (by
          have := firstP_at (pureAt seed st.L) st.L.length 0 (by unfold nextI at hlt; omega)
          rw [Nat.zero_add] at this
          exact this)).2
        have hrn := run_next (m := m - 1) (s := st) hlt
        rw [show m - 1 + 1 = m by omega, hrun] at hrn
        have htk : st.take seed (nextI seed st.L) = _ := rfl
        rw [htk] at hrn
        unfold Pst.take at hrn
        dsimp only at hrn
        generalize nextI seed st.L = i at *
        repeat with_reducible first | refine wp_seq ?_ | refine nThen ?_ | refine wp_skip ?_ | refine wp_block ?_
        refine' reg_all hF ?_ mixed (by kernel_rfl) ?_
        rotate_left
        · repeat (first | exact Line.nil | ((refine' Line.cons rfl (.run rfl rfl ?_) ?_); (any_goals (first | exact cMove rfl rfl | exact cAssign rfl rfl | exact cNilOk rfl rfl | exact cPeelP rfl (.l rfl hat) | exact cLoad1 (u := sP) rfl (.t rfl) (pts_at _ _) Tryz.underlying175 rfl | exact cCallH2 rfl (.l rfl hsP) (.t rfl) hI)); rotate_left))
        intro a w31 hF hb hN
        have hBs := hB.size
        replace hB := hB.trans (hb.mono hB.size)
        dsimp only [ext, Option.getD] at hF
        repeat with_reducible first | refine wp_seq ?_ | refine nThen ?_
        refine' reg_all hF ?_ mixed (by kernel_rfl) ?_
        rotate_left
        · repeat (first | exact Line.nil | ((refine' Line.cons rfl (.run rfl rfl ?_) ?_); (any_goals (first | exact cMove rfl rfl | exact cLss rfl rfl rfl)); rotate_left))
        intro a w32 hF hb hN
        have hBs := hB.size
        replace hB := hB.trans (hb.mono hB.size)
        dsimp only [ext, Option.getD] at hF
        repeat with_reducible refine nThen ?_
        refine cond_ty hF rfl (fun hneg => ?_) (fun _ => ?_)
        · exact absurd (of_decide_eq_true hneg) (by omega)
        repeat with_reducible first | refine nThen ?_ | refine wp_skip ?_
        refine wp_region_lit ?_
        refine' tlOp hF rfl rfl rfl ?_ ?_
        rotate_left
        · exact cMove rfl rfl
        intro a w33 hF hb
        have hBs := hB.size
        replace hB := hB.trans (hb.mono hB.size)
        try (refine wpList_nil ?_)
        refine' tlOp hF rfl rfl rfl ?_ ?_
        rotate_left
        · exact cMove rfl rfl
        intro a w34 hF hb
        have hBs := hB.size
        replace hB := hB.trans (hb.mono hB.size)
        try (refine wpList_nil ?_)
        replace hM := hM.below hB
        replace hL := hL.trans (hB.mono hlo30)
        have hlo34 : lo ≤ w34.heap.size := Nat.le_trans hlo30 hB.size
        obtain ⟨x, hx⟩ : ∃ x, (st.L.getD i default).key = x := ⟨_, rfl⟩
        rw [hx] at hrn
        have hSx : decide (x ∈ S) = (decide (x ∈ st.plus) || decide (x ∈ st.minus)) := by rw [← Bool.decide_or]; exact decide_eq_decide.2 (hS x)
        rw [← hSx] at hrn
        by_cases hc : (st.L.getD i default).n = 1
        · rw [if_pos hc] at hrn
          have hlk := takeP_any hM hO hlo34 hsd (by omega) (by omega) hlt hpu hc hx
          refine tlCall rfl rfl rfl (args := #[.pointer (some ⟨gp, 0, none⟩), ivn i]) ?_ het hlk ?_
          · simp only [List.map_toArray, List.map_cons, List.map_nil, hF.getEx (s := 50) rfl, hF.getEx (s := 51) rfl]; rfl
          rintro z w35 ⟨rfl, hB35, v', S', hM2, hO2⟩
          have hF := ((hF.keep [2, 4, 6, 7]).exs (w' := w35) (exs_cons (exs_cons (exs_cons (exs_cons exs_nil))))).put (d := 52) (by decide) (Below.refl _ _) (V := Ty.ex (.bool (!decide (x ∈ S)))) rfl
          replace hL := hL.trans hB35
          replace hB := Below.refl w35.heap.size w35
          have hlo35 : lo ≤ w35.heap.size := by rw [elo]; exact hL.size
          cases hxs : decide (x ∈ S) with
          | true =>
            rw [hxs, Bool.not_true, Bool.and_false] at hrn
            rw [hxs] at hF
            refine' tlOp hF rfl rfl rfl ?_ ?_
            rotate_left
            · exact cMove rfl rfl
            intro a w36 hF hb
            have hBs := hB.size
            replace hB := hB.trans (hb.mono hB.size)
            try (refine wpList_nil ?_)
            refine tlOpN hF rfl rfl rfl rfl rfl rfl fun a hF => ?_
            refine' tlOp hF rfl rfl rfl ?_ ?_
            rotate_left
            · exact cPickF rfl rfl rfl
            intro a w37 hF hb
            have hBs := hB.size
            replace hB := hB.trans (hb.mono hB.size)
            try (refine wpList_nil ?_)
            refine' tlOp hF rfl rfl rfl ?_ ?_
            rotate_left
            · exact cAssign rfl rfl
            intro a w38 hF hb
            have hBs := hB.size
            replace hB := hB.trans (hb.mono hB.size)
            try (refine wpList_nil ?_)
            repeat with_reducible first | refine nThen ?_ | refine nBlk ?_
            refine' reg_all hF ?_ mixed (by kernel_rfl) ?_
            rotate_left
            · repeat (first | exact Line.nil | ((refine' Line.cons rfl (.run rfl rfl ?_) ?_); (any_goals (first | exact cMove rfl rfl | exact cAssign rfl rfl | exact cAdd (r := ((n + 1 : Nat) : Int)) rfl rfl rfl (by omega))); rotate_left))
            intro a w39 hF hb hN
            have hBs := hB.size
            replace hB := hB.trans (hb.mono hB.size)
            dsimp only [ext, Option.getD] at hF
            repeat with_reducible refine nThen ?_
            exact ⟨m - 1, by omega, n + 1, ⟨tput seed st.L x (-1), st.plus ++ [x], st.minus, false⟩, _, _, _, _, _, by omega, hF.keep [2, 4, 6, 7], hL.trans (hB.mono hlo35), hM2.below hB, hO2, fun y => mem_plus (hS y), by rw [tput_len]; exact hlen, hrn.symm, by simp; omega⟩
          | false =>
            rw [hxs, Bool.not_false, Bool.and_true] at hrn
            rw [hxs] at hF
            refine' tlOp hF rfl rfl rfl ?_ ?_
            rotate_left
            · exact cMove rfl rfl
            intro a w36 hF hb
            have hBs := hB.size
            replace hB := hB.trans (hb.mono hB.size)
            try (refine wpList_nil ?_)
            refine tlOpG hF rfl rfl rfl rfl rfl (cMove rfl rfl) fun a w37 hF hb => ?_
            replace hB := hB.trans (hb.mono hB.size)
            refine' tlOp hF rfl rfl rfl ?_ ?_
            rotate_left
            · exact cPickT rfl rfl rfl
            intro a w38 hF hb
            have hBs := hB.size
            replace hB := hB.trans (hb.mono hB.size)
            try (refine wpList_nil ?_)
            refine' tlOp hF rfl rfl rfl ?_ ?_
            rotate_left
            · exact cAssign rfl rfl
            intro a w39 hF hb
            have hBs := hB.size
            replace hB := hB.trans (hb.mono hB.size)
            try (refine wpList_nil ?_)
            repeat with_reducible first | refine nThen ?_ | refine nBlk ?_
            refine' reg_all hF ?_ mixed (by kernel_rfl) ?_
            rotate_left
            · repeat (first | exact Line.nil | ((refine' Line.cons rfl (.run rfl rfl ?_) ?_); (any_goals (first | exact cMove rfl rfl | exact cAssign rfl rfl | exact cAdd (r := ((n + 1 : Nat) : Int)) rfl rfl rfl (by omega))); rotate_left))
            intro a w40 hF hb hN
            have hBs := hB.size
            replace hB := hB.trans (hb.mono hB.size)
            dsimp only [ext, Option.getD] at hF
            repeat with_reducible refine nThen ?_
            exact ⟨m - 1, by omega, n + 1, ⟨tput seed st.L x (-1), st.plus ++ [x], st.minus, st.once⟩, _, _, _, _, _, by omega, hF.keep [2, 4, 6, 7], hL.trans (hB.mono hlo35), hM2.below hB, hO2, fun y => mem_plus (hS y), by rw [tput_len]; exact hlen, hrn.symm, by simp; omega⟩
        · rw [if_neg hc] at hrn
          have hlk := takeM_any hM hO hlo34 hsd (by omega) (by omega) hlt hpu hc hx
          refine tlCall rfl rfl rfl (args := #[.pointer (some ⟨gp, 0, none⟩), ivn i]) ?_ het hlk ?_
          · simp only [List.map_toArray, List.map_cons, List.map_nil, hF.getEx (s := 50) rfl, hF.getEx (s := 51) rfl]; rfl
          rintro z w35 ⟨rfl, hB35, v', S', hM2, hO2⟩
          have hF := ((hF.keep [2, 4, 6, 7]).exs (w' := w35) (exs_cons (exs_cons (exs_cons (exs_cons exs_nil))))).put (d := 52) (by decide) (Below.refl _ _) (V := Ty.ex (.bool (!decide (x ∈ S)))) rfl
          replace hL := hL.trans hB35
          replace hB := Below.refl w35.heap.size w35
          have hlo35 : lo ≤ w35.heap.size := by rw [elo]; exact hL.size
          cases hxs : decide (x ∈ S) with
          | true =>
            rw [hxs, Bool.not_true, Bool.and_false] at hrn
            rw [hxs] at hF
            refine' tlOp hF rfl rfl rfl ?_ ?_
            rotate_left
            · exact cMove rfl rfl
            intro a w36 hF hb
            have hBs := hB.size
            replace hB := hB.trans (hb.mono hB.size)
            try (refine wpList_nil ?_)
            refine tlOpN hF rfl rfl rfl rfl rfl rfl fun a hF => ?_
            refine' tlOp hF rfl rfl rfl ?_ ?_
            rotate_left
            · exact cPickF rfl rfl rfl
            intro a w37 hF hb
            have hBs := hB.size
            replace hB := hB.trans (hb.mono hB.size)
            try (refine wpList_nil ?_)
            refine' tlOp hF rfl rfl rfl ?_ ?_
            rotate_left
            · exact cAssign rfl rfl
            intro a w38 hF hb
            have hBs := hB.size
            replace hB := hB.trans (hb.mono hB.size)
            try (refine wpList_nil ?_)
            repeat with_reducible first | refine nThen ?_ | refine nBlk ?_
            refine' reg_all hF ?_ mixed (by kernel_rfl) ?_
            rotate_left
            · repeat (first | exact Line.nil | ((refine' Line.cons rfl (.run rfl rfl ?_) ?_); (any_goals (first | exact cMove rfl rfl | exact cAssign rfl rfl | exact cAdd (r := ((n + 1 : Nat) : Int)) rfl rfl rfl (by omega))); rotate_left))
            intro a w39 hF hb hN
            have hBs := hB.size
            replace hB := hB.trans (hb.mono hB.size)
            dsimp only [ext, Option.getD] at hF
            repeat with_reducible refine nThen ?_
            exact ⟨m - 1, by omega, n + 1, ⟨tput seed st.L x 1, st.plus, st.minus ++ [x], false⟩, _, _, _, _, _, by omega, hF.keep [2, 4, 6, 7], hL.trans (hB.mono hlo35), hM2.below hB, hO2, fun y => mem_minus (hS y), by rw [tput_len]; exact hlen, hrn.symm, by simp; omega⟩
          | false =>
            rw [hxs, Bool.not_false, Bool.and_true] at hrn
            rw [hxs] at hF
            refine' tlOp hF rfl rfl rfl ?_ ?_
            rotate_left
            · exact cMove rfl rfl
            intro a w36 hF hb
            have hBs := hB.size
            replace hB := hB.trans (hb.mono hB.size)
            try (refine wpList_nil ?_)
            refine tlOpG hF rfl rfl rfl rfl rfl (cMove rfl rfl) fun a w37 hF hb => ?_
            replace hB := hB.trans (hb.mono hB.size)
            refine' tlOp hF rfl rfl rfl ?_ ?_
            rotate_left
            · exact cPickT rfl rfl rfl
            intro a w38 hF hb
            have hBs := hB.size
            replace hB := hB.trans (hb.mono hB.size)
            try (refine wpList_nil ?_)
            refine' tlOp hF rfl rfl rfl ?_ ?_
            rotate_left
            · exact cAssign rfl rfl
            intro a w39 hF hb
            have hBs := hB.size
            replace hB := hB.trans (hb.mono hB.size)
            try (refine wpList_nil ?_)
            repeat with_reducible first | refine nThen ?_ | refine nBlk ?_
            refine' reg_all hF ?_ mixed (by kernel_rfl) ?_
            rotate_left
            · repeat (first | exact Line.nil | ((refine' Line.cons rfl (.run rfl rfl ?_) ?_); (any_goals (first | exact cMove rfl rfl | exact cAssign rfl rfl | exact cAdd (r := ((n + 1 : Nat) : Int)) rfl rfl rfl (by omega))); rotate_left))
            intro a w40 hF hb hN
            have hBs := hB.size
            replace hB := hB.trans (hb.mono hB.size)
            dsimp only [ext, Option.getD] at hF
            repeat with_reducible refine nThen ?_
            exact ⟨m - 1, by omega, n + 1, ⟨tput seed st.L x 1, st.plus, st.minus ++ [x], st.once⟩, _, _, _, _, _, by omega, hF.keep [2, 4, 6, 7], hL.trans (hB.mono hlo35), hM2.below hB, hO2, fun y => mem_minus (hS y), by rw [tput_len]; exact hlen, hrn.symm, by simp; omega⟩
      · rw [if_neg hlt] at hI
        rw [run_stop hlt] at hrun
        repeat with_reducible first | refine wp_seq ?_ | refine nThen ?_ | refine wp_skip ?_ | refine wp_block ?_
        refine' reg_all hF ?_ mixed (by kernel_rfl) ?_
        rotate_left
        · repeat (first | exact Line.nil | ((refine' Line.cons rfl (.run rfl rfl ?_) ?_); (any_goals (first | exact cMove rfl rfl | exact cAssign rfl rfl | exact cNilOk rfl rfl | exact cPeelP rfl (.l rfl hat) | exact cLoad1 (u := sP) rfl (.t rfl) (pts_at _ _) Tryz.underlying175 rfl | exact cCallH2 rfl (.l rfl hsP) (.t rfl) hI)); rotate_left))
        intro a w31 hF hb hN
        have hBs := hB.size
        replace hB := hB.trans (hb.mono hB.size)
        dsimp only [ext, Option.getD] at hF
        repeat with_reducible first | refine wp_seq ?_ | refine nThen ?_
        refine' reg_all hF ?_ mixed (by kernel_rfl) ?_
        rotate_left
        · repeat (first | exact Line.nil | ((refine' Line.cons rfl (.run rfl rfl ?_) ?_); (any_goals (first | exact cMove rfl rfl | exact cLss rfl rfl rfl)); rotate_left))
        intro a w32 hF hb hN
        have hBs := hB.size
        replace hB := hB.trans (hb.mono hB.size)
        dsimp only [ext, Option.getD] at hF
        repeat with_reducible refine nThen ?_
        refine cond_ty hF rfl (fun _ => ?_) (fun hneg => ?_)
        · repeat with_reducible first | refine wp_exit ?_ | refine xThen ?_ | refine xFar (by decide) ?_
          subst hrun
          exact ⟨rfl, S, s0, s1, S0, S1, n, hF.keep [2, 4, 6], hL.trans (hB.mono hlo30), hM.below hB⟩
        · exact absurd (of_decide_eq_false hneg) (by omega)
    · have hgt : ¬ n ≤ 1024 := by have := of_decide_eq_false hgt; omega
      obtain rfl : m = 0 := by omega
      have hrun : st = peelS seed L := hrun
      repeat with_reducible first | refine wp_exit ?_ | refine xThen ?_
      subst hrun
      exact ⟨rfl, S, s0, s1, S0, S1, n, hF.keep [2, 4, 6], hL, hM⟩
  clear hF hB hL hM hO hb hBs
  rintro e a wr ⟨rfl, S, s0, s1, S0, S1, n, hF, hL, hM⟩
  have hlor : lo ≤ wr.heap.size := by rw [elo]; exact hL.size
  have hB := Below.refl wr.heap.size wr
  have hat := hM.at_
  have eok : peelOk seed L = ((peelS seed L).once && allZ (peelS seed L).L) := by unfold peelOk Pst.fine; rw [hok, Bool.true_and]
  have eS : resS seed L = seed := by unfold resS; rw [hok]; rfl
  have eL : resL seed L = (peelS seed L).L := by unfold resL; rw [hok]; rfl
  have hlen : (peelS seed L).L.length = L.length := Pst.run_len _ _ _
  have hf1 := peel_few1 (seed := seed) (L := L)
  have hgd : goodN ((peelS seed L).L.length : Int) = true := by rw [hlen]; exact hok
  have eP : resP seed L = if peelOk seed L then setL (peelS seed L).plus else [] := rfl
  have eM : resM seed L = if peelOk seed L then setL (peelS seed L).minus else [] := rfl
  have eN : resN seed L = if peelOk seed L then 0 else 10 := by unfold resN; rw [hok]; rfl
  rw [eS, eL, eP, eM, eN, eok]
  generalize peelS seed L = st at *
  clear eok eS eL eP eM eN
  have hTZ := tzero_ty seed st.L
  rw [hgd, Bool.true_and] at hTZ
  have htb : (Ty.tab 69 seed st.L).p wr (.agg #[.int .u64 (seed : Int), sL]) := ⟨sL, rfl, hM.tab.sl⟩
  repeat with_reducible first | refine wp_seq ?_ | refine nThen ?_ | refine xHere ?_
  refine wp_mono (Q := fun e a w' => e = .normal ∧ Fr 88 [(2, Ty.ex (.pointer (some ⟨g2, 0, none⟩))), (4, Ty.ex (.pointer (some ⟨gp, 0, none⟩))), (65, Ty.ex (.bool (!(st.once && allZ st.L))))] a w' ∧ Below wr.heap.size wr w') ?_ ?_
  · cases ho : st.once with
    | true =>
      rw [ho] at hF
      rw [Bool.true_and]
      refine' reg_all hF ?_ mixed (by kernel_rfl) ?_
      rotate_left
      · repeat (first | exact Line.nil | ((first | refine' Line.cons rfl (.run rfl rfl ?_) ?_ | refine' Line.cons rfl (.yes rfl rfl rfl rfl ?_) ?_); (any_goals (first | exact cMove rfl rfl | exact cNot rfl rfl | exact cNilOk rfl rfl | exact cPeelT rfl (.l rfl hat) | exact cLoadT46 rfl (Has.c (.t rfl) hatT) | exact cCallH1 rfl (.l rfl htb) hTZ | exact cPickF rfl rfl rfl)); rotate_left))
      intro a w50 hF hb hN
      have hBs := hB.size
      replace hB := hB.trans (hb.mono hB.size)
      dsimp only [ext, Option.getD] at hF
      exact ⟨rfl, hF.keep [2, 4, 65], hB⟩
    | false =>
      rw [ho] at hF
      rw [Bool.false_and]
      refine' reg_all hF ?_ mixed (by kernel_rfl) ?_
      rotate_left
      · repeat (first | exact Line.nil | (refine' Line.cons rfl (.no rfl rfl rfl rfl rfl rfl) ?_; rotate_left) | ((refine' Line.cons rfl (.run rfl rfl ?_) ?_); (any_goals (first | exact cMove rfl rfl | exact cNot rfl rfl | exact cPickT rfl rfl rfl)); rotate_left))
      intro a w50 hF hb hN
      have hBs := hB.size
      replace hB := hB.trans (hb.mono hB.size)
      dsimp only [ext, Option.getD] at hF
      exact ⟨rfl, hF.keep [2, 4, 65], hB⟩
  clear hF hB
  rintro e a w51 ⟨rfl, hF, hB⟩
  replace hL := hL.trans (hB.mono hlor)
  replace hM := hM.below hB
  have hat := hM.at_
  have hlo51 : lo ≤ w51.heap.size := Nat.le_trans hlor hB.size
  have hb2' : Blk w51 g2 ResT #[nilS, nilS, .int .u64 0, nilS] := (hL.block g2 hg2l).trans hb2
  clear htb
  replace hB := Below.refl w51.heap.size w51
  have hsLA := seg_isA hM.tab
  have hfin : ∀ {w'}, Below lo w2 w' → Below w.heap.size w w' := fun hl => hB0.trans (hl.mono (by rw [elo]; exact hw2))
  have hg2S : ∀ {w'}, Keeps [g2] w51 w' → SlP w' 69 sL st.L.length (flatC st.L) := fun hk => (hM.tab.keeps hk (seg_far hM.tab hb2' (by decide))).sl
  repeat with_reducible refine nThen ?_
  cases hz : (st.once && allZ st.L) with
  | false =>
    rw [hz] at hF
    simp only [Bool.false_eq_true, if_false]
    refine cond_t hF rfl ?_
    repeat with_reducible refine wp_seq ?_
    refine' region_ty 5 mixed (by kernel_rfl) hF ?_ ?_
    rotate_left
    · simp only [List.take_succ_cons, List.take_zero]
      repeat (first | exact Line.nil | ((refine' Line.cons rfl (.run rfl rfl ?_) ?_); (any_goals (first | exact cMove rfl rfl | exact cNilOk rfl rfl | exact cPeelT rfl (.l rfl hat) | exact cLoadT46 rfl (Has.c (.t rfl) hatT) | exact cBuildI rfl rfl (fun w => buildRL _ hsLA w))); rotate_left))
    intro a w52 hF hb hN
    have hBs := hB.size
    replace hB := hB.trans (hb.mono hB.size)
    simp only [List.take_succ_cons, List.take_zero, List.drop_succ_cons, List.drop_zero] at hF hN ⊢
    dsimp only [ext, Option.getD] at hF
    replace hb2' := hb2'.below hb
    replace hL := hL.trans (hb.mono hlo51)
    have hlo52 : lo ≤ w52.heap.size := Nat.le_trans hlo51 hb.size
    refine tlStoreV (Δ := [(2, Ty.ex (.pointer (some ⟨g2, 0, none⟩)))]) hF rfl rfl rfl rfl (hF.getEx (s := 70) rfl) hb2' rfl sizeRes (res_one ⟨_, _, _, rfl⟩ ⟨_, _, _, rfl⟩ hsLA) (hF.keep [2]) rfl ?_
    intro w53 hF hb2'' hkx
    have hsl := hg2S ((Keeps.of_below (S := [g2]) hb).trans hkx)
    have hB53 : Below w.heap.size w w53 := below_own (hfin hL) hkx (by intro y hy; simp only [List.mem_singleton] at hy; omega)
    replace hB := hB53
    refine' tlOp hF rfl rfl rfl ?_ ?_
    rotate_left
    · exact cAssign rfl rfl
    intro a w54 hF hb
    have hBs := hB.size
    replace hB := hB.trans (hb.mono hB.size)
    try (refine wpList_nil ?_)
    repeat with_reducible first | refine nThen ?_ | refine wp_ret ?_ | refine rThen ?_
    refine retCell2 hF rfl rfl rfl (hb2''.below hb) Tryz.underlying136 rfl sizeRes ?_
    exact ⟨_, rfl, ⟨[_, _], rfl, ⟨nilS, nilS, sL, rfl, sl_nil _ _, sl_nil _ _, (Ty.cls 69 st.L).below hsl hb⟩, rfl, trivial⟩, hB⟩
  | true =>
    rw [hz] at hF
    simp only [if_true]
    refine cond_f hF rfl ?_
    repeat with_reducible first | refine wp_seq ?_ | refine nThen ?_ | refine wp_skip ?_
    have hs0 : (Ty.sums 28 st.minus).p w51 s0 := hM.minus.sl
    have hs1 : (Ty.sums 28 st.plus).p w51 s1 := hM.plus.sl
    have hO0 := of_ty st.minus (by omega)
    have hO1 := of_ty st.plus (by omega)
    have hsl0 := hM.tab.sl
    generalize setL st.plus = P at *
    generalize setL st.minus = M at *
    refine' region_ty 17 mixed (by kernel_rfl) hF ?_ ?_
    rotate_left
    · simp only [List.take_succ_cons, List.take_zero]
      repeat (first | exact Line.nil | ((refine' Line.cons rfl (.run rfl rfl ?_) ?_); (any_goals (first | exact cMove rfl rfl | exact cNilOk rfl rfl | exact cPeelR rfl (.l rfl hat) | exact cIndexArr (k := 1) rfl (.t rfl) rfl Tryz.underlying177 sizeSS1 (by decide) | exact cIndexArr (k := 0) rfl (.t rfl) rfl Tryz.underlying177 sizeSS1 (by decide) | exact cLoad1 (u := s1) rfl (.t rfl) (pts_at _ _) Tryz.underlying29 rfl | exact cLoad1 (u := s0) rfl (.t rfl) (pts_at _ _) Tryz.underlying29 rfl | exact cCallS1 rfl (.l rfl hs1) hO1 | exact cCallS1 rfl (.l rfl hs0) hO0 | exact cPeelT rfl (.l rfl hat) | exact cLoadT46 rfl (Has.c (.t rfl) hatT) | exact cBuildRes (P := P) (M := M) (L := st.L) rfl rfl rfl rfl hsl0 rfl rfl)); rotate_left))
    intro a w52 hF hb hN
    have hBs := hB.size
    replace hB := hB.trans (hb.mono hB.size)
    simp only [List.take_succ_cons, List.take_zero, List.drop_succ_cons, List.drop_zero] at hF hN ⊢
    dsimp only [ext, Option.getD] at hF
    replace hb2' := hb2'.below hb
    replace hL := hL.trans (hb.mono hlo51)
    obtain ⟨z, ⟨p, q, s', rfl, k1, k2, k3⟩, hF⟩ := hF.open (s := 87) rfl
    refine tlStoreV (Δ := [(2, Ty.ex (.pointer (some ⟨g2, 0, none⟩)))]) hF rfl rfl rfl rfl (hF.getEx (s := 87) rfl) hb2' rfl sizeRes (res_one (sl_isA k1) (sl_isA k2) (sl_isA k3)) (hF.keep [2]) rfl ?_
    intro w53 hF hb2'' hkx
    have hres : (Ty.res P M seed st.L).p w53 (.agg #[p, q, .int .u64 (seed : Int), s']) := (Ty.res P M seed st.L).far (by exact ⟨p, q, s', rfl, k1, k2, k3⟩) hkx hb2' rfl
    have hB53 : Below w.heap.size w w53 := below_own (hfin hL) hkx (by intro y hy; simp only [List.mem_singleton] at hy; omega)
    replace hB := hB53
    refine' tlOp hF rfl rfl rfl ?_ ?_
    rotate_left
    · exact cAssign rfl rfl
    intro a w54 hF hb
    have hBs := hB.size
    replace hB := hB.trans (hb.mono hB.size)
    try (refine wpList_nil ?_)
    repeat with_reducible first | refine nThen ?_ | refine wp_ret ?_
    refine retCell2 hF rfl rfl rfl (hb2''.below hb) Tryz.underlying136 rfl sizeRes ?_
    exact ⟨_, rfl, ⟨[_, _], rfl, (Ty.res P M seed st.L).below hres hb, rfl, trivial⟩, hB⟩
end Go.Proofs.YtmefpnklgfhggaaGreatDoor

/- Layer 15 by types: TableKnown. -/
namespace Go.Proofs.YtmefpnklgfhggaaGreatDoor
open Go.RowKit

theorem minL_good {s t : Nat} {A B : List Cl} (h : minOk s t A B = true) : minL s t A B = tminus A B := by unfold minL; rw [h]; rfl
theorem minS_good {s t : Nat} {A B : List Cl} (h : minOk s t A B = true) : minS s t A B = s := by unfold minS; rw [h]; rfl
theorem minE_good {s t : Nat} {A B : List Cl} (h : minOk s t A B = true) : minE s t A B = .int .i64 0 := by unfold minE; rw [h]; rfl
end Go.Proofs.YtmefpnklgfhggaaGreatDoor

/- peel.Own by types. -/
namespace Go.Proofs.YtmefpnklgfhggaaGreatDoor
open Go.RowKit

/-- The address of a result that is read. -/
def Ty.resA (P M : List Sm) (sd : Nat) (L : List Cl) : Ty := ⟨fun w v => ∃ p q s, (Ty.at_ ResT [p, q, .int .u64 (sd : Int), s]).p w v ∧ SlP w 28 p P.length (flat P) ∧ SlP w 28 q M.length (flat M) ∧ SlP w 69 s L.length (flatC L), fun t => t == ResT || (t == 28 || t == 69), fun {w w' v G} ⟨p, q, s, h1, h2, h3, h4⟩ k hA => by
  have a0 : Apart w G (fun t => t == ResT) := fun b hb hl => let ⟨cs, t, fr, k1, k2⟩ := hA b hb hl; ⟨cs, t, fr, k1, by simp only [Bool.or_eq_false_iff] at k2; exact k2.1⟩
  have a1 : Apart w G (fun t => t == 28) := fun b hb hl => let ⟨cs, t, fr, k1, k2⟩ := hA b hb hl; ⟨cs, t, fr, k1, by simp only [Bool.or_eq_false_iff] at k2; exact k2.2.1⟩
  have a2 : Apart w G (fun t => t == 69) := fun b hb hl => let ⟨cs, t, fr, k1, k2⟩ := hA b hb hl; ⟨cs, t, fr, k1, by simp only [Bool.or_eq_false_iff] at k2; exact k2.2.2⟩
  exact ⟨p, q, s, (Ty.at_ ResT _).st h1 k a0, (Ty.sums 28 P).st h2 k a1, (Ty.sums 28 M).st h3 k a1, (Ty.cls 69 L).st h4 k a2⟩⟩
section
variable {ops : Array Oper} {Q : Exit → Act → World → Prop} {N : Nat} {Γ : Ctx} {a : Act} {w : World} {o1 o2 : Oper} {rest : List Oper}
theorem tlNewRes {p q : Nat} {P M : List Sm} {seed : Nat} {L : List Cl} (hF : Fr N Γ a w) (h1 : o1.op = .alloc ResT) (hg1 : o1.guard = none) (hd1 : o1.dst = some p) (hp : p < N) (hpq : Nat.beq p q = false)
    (h2 : o2.op = .store ResT (.tmp p) (.tmp q)) (hg2 : o2.guard = none) (hd2 : o2.dst = none) (hq : look Γ q = some (Ty.res P M seed L))
    (hk : ∀ a' w', Fr N ((p, Ty.resA P M seed L) :: Γ) a' w' → Below w.heap.size w w' → wpList Tryz.prog ops Q rest a' w') : wpList Tryz.prog ops Q (o1 :: o2 :: rest) a w := by
  obtain ⟨v, ⟨x, y, s, rfl, k1, k2, k3⟩, hFo⟩ := hF.open hq
  refine wpList_plain hg1 fun K hK => ?_
  unfold Oper.wp execOp
  simp only [h1, Sem.run_bind, run_alloc_i infoRes, Result.andThen_ok, Sem.run_pure]
  refine hK _ _ ?_
  rw [hd1]
  have hb1 : Below w.heap.size w (w.alloc (.cells #[nilS, nilS, .int .u64 0, nilS] ResT)) := ((Keeps.refl [] w).alloc _).below
  have hF1 : Fr N ((p, Ty.ex (.pointer (some ⟨w.heap.size, 0, none⟩))) :: (q, Ty.ex (.agg #[x, y, .int .u64 (seed : Int), s])) :: Γ) (a.put (some p) (.pointer (some ⟨w.heap.size, 0, none⟩))) (w.alloc (.cells #[nilS, nilS, .int .u64 0, nilS] ResT)) := hFo.put hp hb1 rfl
  have hv3 := hF1.getEx (s := q) (v := .agg #[x, y, .int .u64 (seed : Int), s]) (by rw [look]; simp only [hpq, cond_false]; exact look_same _ _ _)
  refine tlStoreV (Δ := []) hF1 hg2 hd2 h2 (look_same _ _ _) hv3 (Blk.new w _ _) rfl (by rw [sizeRes]; rfl) (res_one (sl_isA k1) (sl_isA k2) (sl_isA k3)) (hF1.keep []) rfl ?_
  intro w' _ hb' hkx
  have hB := below_own hb1 hkx (by intro y hy; simp only [List.mem_singleton] at hy; omega)
  refine hk _ _ (hF.put hp hB ⟨x, y, s, ⟨w.heap.size, 0, _, (0, 0), rfl, hb', fun j u h => by simpa [Value.cells] using h⟩, (Ty.sums 28 P).below k1 hB, (Ty.sums 28 M).below k2 hB, (Ty.cls 69 L).below k3 hB⟩) hB
end
section
variable {w0 : World} {Γ : Ctx} {o : Oper} {x : Operand} {e : TypeId} {xs : List Value}
theorem sizeSL1 : (Tryz.prog.info? 30).map (·.size) = some 1 := by kernel_rfl
theorem cResP (ho : o.op = .fieldAddr ResT x 0) (hx : Has w0 Γ x (Ty.at_ e xs)) : OpOk Tryz.prog w0 Γ o (Ty.at_ e xs) :=
  (cFieldE (P := Tryz.prog) ho hx Tryz.underlying136 rfl sizeSL1).conv fun _ _ h => h
theorem cResM (ho : o.op = .fieldAddr ResT x 1) (hx : Has w0 Γ x (Ty.at_ e xs)) : OpOk Tryz.prog w0 Γ o (Ty.at_ e (xs.drop 1)) :=
  cFieldE (P := Tryz.prog) ho hx Tryz.underlying136 rfl sizeSL1
end
theorem sums_nil (w : World) : (Ty.sums 28 []).p w nilS := sl_nil w 28
theorem own_min {seed : Nat} {L : List Cl} {M : List Sm} (hg : goodN (L.length : Int) = true) : minOk seed seed L (ofL seed (L.length : Int) M) = true := minOk_good hg (ofL_len' hg).symm
set_option maxRecDepth 100000 in
set_option maxHeartbeats 4000000 in
theorem own_ty (seed : Nat) (L : List Cl) (M : List Sm) (hM : M.length ≤ 1000000) (hsd : seed < 18446744073709551616) : Fn2 Tryz.prog 40 (Ty.tab 69 seed L) (Ty.sums 28 M) (Ty.tup [Ty.sums 28 (ownP seed L M), Ty.sums 28 (ownQ seed L M), Ty.ex (.int .i64 (ownN seed L M))]) := by
  refine ⟨fun args w => by kernel_rfl, fun w v u ⟨s, hv, hs⟩ hu => ?_⟩
  subst hv
  have hG := tgood_ty seed L
  have hGd := good_ty M hM
  have eN := ownN.eq_1 seed L M
  refine enter_ty 63 [Ty.ex (.agg #[.int .u64 (seed : Int), s]), Ty.ex u] Tryz.func40 rfl (by kernel_rfl) ⟨rfl, rfl, trivial⟩ fun a hF => ?_
  have hB := Below.refl w.heap.size w
  let TL := Ty.cls 69 L
  let TM := Ty.sums 28 M
  repeat with_reducible refine wp_seq ?_
  refine' reg_all hF ?_ mixed (by kernel_rfl) ?_
  rotate_left
  · repeat (first | exact Line.nil | ((refine' Line.cons rfl (.run rfl rfl ?_) ?_); (any_goals (first | exact cAssign rfl rfl | exact cBoxTab rfl rfl)); rotate_left))
  intro a w1 hF hb hN
  have hBs := hB.size
  replace hB := hB.trans (hb.mono hB.size)
  dsimp only [ext, Option.getD] at hF
  repeat with_reducible first | refine wp_seq ?_ | refine nThen ?_
  have hs1 := TL.below hs hB
  have hu1 := TM.below hu hB
  have ht1 : (Ty.tab 69 seed L).p w1 (.agg #[.int .u64 (seed : Int), s]) := ⟨s, rfl, hs1⟩
  refine wp_mono (Q := fun e a w' => e = .normal ∧ Fr 63 [(1, Ty.ex u), (2, Ty.at_ 40 [.int .u64 (seed : Int), s]), (20, Ty.ex (.bool (!(goodN (L.length : Int) && goodL M))))] a w' ∧ Below w.heap.size w w') ?_ ?_
  · cases hg : goodN (L.length : Int) with
    | false =>
      rw [hg] at hG
      rw [Bool.false_and]
      refine' reg_all hF ?_ mixed (by kernel_rfl) ?_
      rotate_left
      · repeat (first | exact Line.nil | (refine' Line.cons rfl (.no rfl rfl rfl rfl rfl rfl) ?_; rotate_left) | ((refine' Line.cons rfl (.run rfl rfl ?_) ?_); (any_goals (first | exact cMove rfl rfl | exact cNot rfl rfl | exact cLoadT46 rfl (.t rfl) | exact cCallH1 rfl (.l rfl ht1) hG | exact cPickT rfl rfl rfl)); rotate_left))
      intro a w2 hF hb hN
      have hBs := hB.size
      replace hB := hB.trans (hb.mono hB.size)
      dsimp only [ext, Option.getD] at hF
      exact ⟨rfl, hF.keep [1, 2, 20], hB⟩
    | true =>
      rw [hg] at hG
      rw [Bool.true_and]
      refine' reg_all hF ?_ mixed (by kernel_rfl) ?_
      rotate_left
      · repeat (first | exact Line.nil | ((first | refine' Line.cons rfl (.run rfl rfl ?_) ?_ | refine' Line.cons rfl (.yes rfl rfl rfl rfl ?_) ?_); (any_goals (first | exact cMove rfl rfl | exact cNot rfl rfl | exact cLoadT46 rfl (.t rfl) | exact cCallH1 rfl (.l rfl ht1) hG | exact cCallH1 rfl (.l rfl hu1) hGd | exact cPickF rfl rfl rfl)); rotate_left))
      intro a w2 hF hb hN
      have hBs := hB.size
      replace hB := hB.trans (hb.mono hB.size)
      dsimp only [ext, Option.getD] at hF
      exact ⟨rfl, hF.keep [1, 2, 20], hB⟩
  clear hF hB hs1 hu1 ht1
  rintro e a w2 ⟨rfl, hF, hB⟩
  repeat with_reducible refine nThen ?_
  cases hok : (goodN (L.length : Int) && goodL M) with
  | false =>
    rw [hok] at hF eN
    rw [if_neg (by decide)] at eN
    rw [show ownP seed L M = [] by unfold ownP; rw [eN]; rfl, show ownQ seed L M = [] by unfold ownQ; rw [eN]; rfl, eN]
    refine cond_t hF rfl ?_
    repeat with_reducible refine wp_seq ?_
    refine' reg_all hF ?_ mixed (by kernel_rfl) ?_
    rotate_left
    · repeat (first | exact Line.nil | ((refine' Line.cons rfl (.run rfl rfl ?_) ?_); (any_goals exact cAssign rfl rfl); rotate_left))
    intro a w3 hF hb hN
    have hBs := hB.size
    replace hB := hB.trans (hb.mono hB.size)
    dsimp only [ext, Option.getD] at hF
    repeat with_reducible first | refine nThen ?_ | refine wp_ret ?_ | refine rThen ?_
    refine ret3 hF rfl rfl rfl rfl fun a b c ha hb hc => ?_
    exact ⟨_, rfl, ⟨[a, b, c], rfl, by rw [show a = nilS from ha]; exact sums_nil _, by rw [show b = nilS from hb]; exact sums_nil _, hc, trivial⟩, hB⟩
  | true =>
  rw [hok] at hF eN
  rw [if_pos rfl] at eN
  simp only [Bool.and_eq_true] at hok
  obtain ⟨hgd, _⟩ := hok
  have o1 := tof_ty seed (L.length : Int) M hM hsd
  rw [newE_good hgd, newS_good hgd] at o1
  have m1 := tminus_ty seed seed L (ofL seed (L.length : Int) M)
  have k1 := own_min (seed := seed) (M := M) hgd
  rw [minL_good k1, minS_good k1, minE_good k1] at m1
  have eD : tminus L (ofL seed (L.length : Int) M) = ownD seed L M := rfl
  rw [eD] at m1
  have hDl := ownD_len (seed := seed) (M := M) hgd
  have hAll := pall_ty seed (ownD seed L M) hsd
  have eB := ownB.eq_1 seed L M
  have eP : ownP seed L M = if ownN seed L M = 0 then resP seed (ownD seed L M) else [] := rfl
  have eQ : ownQ seed L M = if ownN seed L M = 0 then resM seed (ownD seed L M) else [] := rfl
  rw [eP, eQ, eN, eB]
  clear eP eQ eN eB eD k1
  have hPl := resP_len (seed := seed) (L := ownD seed L M)
  have hQl := resM_len (seed := seed) (L := ownD seed L M)
  generalize ownD seed L M = D at *
  generalize ofL seed (L.length : Int) M = O at *
  generalize resN seed D = en at *
  generalize resP seed D = P at *
  generalize resM seed D = K at *
  generalize resS seed D = sd at *
  generalize resL seed D = RL at *
  have hmn := minus_ty K M (by omega) hM
  have hbt := both_ty P M (by omega) hM
  refine cond_f hF rfl ?_
  repeat with_reducible first | refine wp_seq ?_ | refine nThen ?_ | refine wp_skip ?_
  have hs2 := TL.below hs hB
  have hu2 := TM.below hu hB
  have ht2 : (Ty.tab 69 seed L).p w2 (.agg #[.int .u64 (seed : Int), s]) := ⟨s, rfl, hs2⟩
  refine wp_region_lit ?_
  refine' tlOp hF rfl rfl rfl ?_ ?_
  rotate_left
  · exact cFldS46 rfl (.t rfl)
  intro a w5_0 hF hb
  replace hB := hB.trans (hb.mono hB.size)
  refine' tlOp hF rfl rfl rfl ?_ ?_
  rotate_left
  · exact cLoadU64 rfl (.t rfl)
  intro a w5_1 hF hb
  replace hB := hB.trans (hb.mono hB.size)
  refine' tlOp hF rfl rfl rfl ?_ ?_
  rotate_left
  · exact cFldL46 rfl (.t rfl)
  intro a w5_2 hF hb
  replace hB := hB.trans (hb.mono hB.size)
  refine' tlOp hF rfl rfl rfl ?_ ?_
  rotate_left
  · exact cRowOf46 rfl (.t rfl)
  intro a w5_3 hF hb
  replace hB := hB.trans (hb.mono hB.size)
  refine' tlOp hF rfl rfl rfl ?_ ?_
  rotate_left
  · exact cLenH rfl (.l rfl (TL.below hs hB)) (Ty.sl_isSl _ _ _) Tryz.underlying38
  intro a w5_4 hF hb
  replace hB := hB.trans (hb.mono hB.size)
  refine' tlOp hF rfl rfl rfl ?_ ?_
  rotate_left
  · exact cMove rfl rfl
  intro a w5_5 hF hb
  replace hB := hB.trans (hb.mono hB.size)
  refine' tlOp hF rfl rfl rfl ?_ ?_
  rotate_left
  · exact cCallR3 rfl (.t rfl) (.t rfl) (.l rfl (TM.below hu hB)) o1 (tabE_olds _ _ _ _)
  intro a w5_6 hF hb
  replace hB := hB.trans (hb.mono hB.size)
  refine' tlOp hF rfl rfl rfl ?_ ?_
  rotate_left
  · exact cMove rfl rfl
  intro a w5_7 hF hb
  replace hB := hB.trans (hb.mono hB.size)
  refine' tlOp hF rfl rfl rfl ?_ ?_
  rotate_left
  · exact cExtT rfl rfl
  intro a w5_t hF hb
  replace hB := hB.trans (hb.mono hB.size)
  refine' tlOp hF rfl rfl rfl ?_ ?_
  rotate_left
  · exact cExtE rfl rfl
  intro a w5_e hF hb
  replace hB := hB.trans (hb.mono hB.size)
  refine tlNewTab hF rfl rfl rfl (by decide) rfl (run_alloc_i infoT46) rfl rfl rfl rfl tabO_tab sizeT46 fun a w5_n hF hb => ?_
  replace hB := hB.trans (hb.mono hB.size)
  refine' tlOp hF rfl rfl rfl ?_ ?_
  rotate_left
  · exact cAssign rfl rfl
  intro a w5 hF hb
  replace hB := hB.trans (hb.mono hB.size)
  try (refine wpList_nil ?_)
  repeat with_reducible first | refine wp_seq ?_ | refine nThen ?_
  refine wp_region_lit ?_
  refine' tlOp hF rfl rfl rfl ?_ ?_
  rotate_left
  · exact cLoadT46 rfl (.t rfl)
  intro a w6_0 hF hb
  replace hB := hB.trans (hb.mono hB.size)
  refine' tlOp hF rfl rfl rfl ?_ ?_
  rotate_left
  · exact cLoadTab46 rfl (.t rfl)
  intro a w6_1 hF hb
  replace hB := hB.trans (hb.mono hB.size)
  refine' tlOp hF rfl rfl rfl ?_ ?_
  rotate_left
  · exact cCallR2 rfl (Has.l (τ := Ty.tab 69 seed L) rfl ⟨s, rfl, TL.below hs hB⟩) (.t rfl) m1 (tabE_olds _ _ _ _)
  intro a w6_2 hF hb
  replace hB := hB.trans (hb.mono hB.size)
  refine' tlOp hF rfl rfl rfl ?_ ?_
  rotate_left
  · exact cMove rfl rfl
  intro a w6_3 hF hb
  replace hB := hB.trans (hb.mono hB.size)
  refine' tlOp hF rfl rfl rfl ?_ ?_
  rotate_left
  · exact cExtT rfl rfl
  intro a w6_t hF hb
  replace hB := hB.trans (hb.mono hB.size)
  refine' tlOp hF rfl rfl rfl ?_ ?_
  rotate_left
  · exact cExtE rfl rfl
  intro a w6_e hF hb
  replace hB := hB.trans (hb.mono hB.size)
  refine tlNewTab hF rfl rfl rfl (by decide) rfl (run_alloc_i infoT46) rfl rfl rfl rfl tabO_tab sizeT46 fun a w6_n hF hb => ?_
  replace hB := hB.trans (hb.mono hB.size)
  refine' tlOp hF rfl rfl rfl ?_ ?_
  rotate_left
  · exact cAssign rfl rfl
  intro a w6 hF hb
  replace hB := hB.trans (hb.mono hB.size)
  try (refine wpList_nil ?_)
  repeat with_reducible first | refine wp_seq ?_ | refine nThen ?_
  refine wp_region_lit ?_
  refine' tlOp hF rfl rfl rfl ?_ ?_
  rotate_left
  · exact cLoadTab46 rfl (.t rfl)
  intro a w7_0 hF hb
  replace hB := hB.trans (hb.mono hB.size)
  refine' tlOp hF rfl rfl rfl ?_ ?_
  rotate_left
  · exact cCall1 rfl rfl hAll
  intro a w7_1 hF hb
  replace hB := hB.trans (hb.mono hB.size)
  refine' tlOp hF rfl rfl rfl ?_ ?_
  rotate_left
  · exact cMove rfl rfl
  intro a w7_2 hF hb
  replace hB := hB.trans (hb.mono hB.size)
  refine' tlOp hF rfl rfl rfl ?_ ?_
  rotate_left
  · exact cExtract rfl rfl rfl
  intro a w7_t hF hb
  replace hB := hB.trans (hb.mono hB.size)
  refine' tlOp hF rfl rfl rfl ?_ ?_
  rotate_left
  · exact cExtract rfl rfl rfl
  intro a w7_e hF hb
  replace hB := hB.trans (hb.mono hB.size)
  refine tlNewRes hF rfl rfl rfl (by decide) rfl rfl rfl rfl rfl fun a w7_n hF hb => ?_
  replace hB := hB.trans (hb.mono hB.size)
  refine' tlOp hF rfl rfl rfl ?_ ?_
  rotate_left
  · exact cAssign rfl rfl
  intro a w7 hF hb
  replace hB := hB.trans (hb.mono hB.size)
  try (refine wpList_nil ?_)
  repeat with_reducible first | refine wp_seq ?_ | refine nThen ?_ | refine wp_block ?_
  obtain ⟨v11, ⟨p, q, s', hat, r1, r2, r3⟩, hF⟩ := hF.open (s := 11) rfl
  have hu7 := TM.below hu hB
  clear r3 ht2 hs2 hu2
  by_cases h0 : en = 0
  rotate_left
  · rw [if_neg h0]
    rw [if_neg (show ¬ en = 0 from h0), if_neg (show ¬ en = 0 from h0)]
    refine' reg_all hF ?_ mixed (by kernel_rfl) ?_
    rotate_left
    · repeat (first | exact Line.nil | ((refine' Line.cons rfl (.run rfl rfl ?_) ?_); (any_goals (first | exact cMove rfl rfl | exact cAssign rfl rfl | exact OpOk.b (c := true) (cNeq rfl rfl rfl) (by rw [decide_eq_false h0]; rfl))); rotate_left))
    intro a w8 hF hb hN
    have hBs := hB.size
    replace hB := hB.trans (hb.mono hB.size)
    dsimp only [ext, Option.getD] at hF
    repeat with_reducible refine nThen ?_
    refine cond_t hF rfl ?_
    repeat with_reducible refine wp_seq ?_
    refine' reg_all hF ?_ mixed (by kernel_rfl) ?_
    rotate_left
    · repeat (first | exact Line.nil | ((refine' Line.cons rfl (.run rfl rfl ?_) ?_); (any_goals (first | exact cMove rfl rfl | exact cAssign rfl rfl)); rotate_left))
    intro a w9 hF hb hN
    have hBs := hB.size
    replace hB := hB.trans (hb.mono hB.size)
    dsimp only [ext, Option.getD] at hF
    repeat with_reducible first | refine nThen ?_ | refine wp_ret ?_ | refine rThen ?_ | refine rBlk ?_
    refine ret3 hF rfl rfl rfl rfl fun a b c ha hb hc => ?_
    exact ⟨_, rfl, ⟨[a, b, c], rfl, by rw [show a = nilS from ha]; exact sums_nil _, by rw [show b = nilS from hb]; exact sums_nil _, hc, trivial⟩, hB⟩
  rw [if_pos h0]
  refine' reg_all hF ?_ mixed (by kernel_rfl) ?_
  rotate_left
  · repeat (first | exact Line.nil | ((refine' Line.cons rfl (.run rfl rfl ?_) ?_); (any_goals (first | exact cMove rfl rfl | exact cAssign rfl rfl | exact OpOk.b (c := false) (cNeq rfl rfl rfl) (by rw [decide_eq_true h0]; rfl))); rotate_left))
  intro a w8 hF hb hN
  have hBs := hB.size
  replace hB := hB.trans (hb.mono hB.size)
  dsimp only [ext, Option.getD] at hF
  repeat with_reducible refine nThen ?_
  refine cond_f hF rfl ?_
  repeat with_reducible refine wp_seq ?_
  have hat8 := (Ty.at_ ResT [p, q, .int .u64 (sd : Int), s']).below hat hb
  have r18 := (Ty.sums 28 P).below r1 hb
  have r28 := (Ty.sums 28 K).below r2 hb
  have hu8 := TM.below hu7 hb
  have e1 : decide ((0 : Int) < ((minusL K M).length : Int)) = decide (0 < (minusL K M).length) := decide_eq_decide.2 (by omega)
  have e2 : decide ((0 : Int) < ((bothL P M).length : Int)) = decide (0 < (bothL P M).length) := decide_eq_decide.2 (by omega)
  refine' reg_all hF ?_ mixed (by kernel_rfl) ?_
  rotate_left
  · repeat (first | exact Line.nil | ((refine' Line.cons rfl (.run rfl rfl ?_) ?_); (any_goals (first | exact cMove rfl rfl | exact cAssign rfl rfl | exact cResM rfl (.l rfl hat8) | exact cLoad1 (u := q) rfl (.t rfl) (pts_at _ _) Tryz.underlying30 rfl | exact cCallS2 rfl (.l rfl r28) (.l rfl hu8) hmn | exact cLenH rfl (.t rfl) (Ty.seg_isSl _ _ _ _ _) Tryz.underlying30 | exact OpOk.b (cGtr rfl rfl rfl) e1)); rotate_left))
  intro a w9 hF hb hN
  have hBs := hB.size
  replace hB := hB.trans (hb.mono hB.size)
  dsimp only [ext, Option.getD] at hF
  repeat with_reducible refine nThen ?_
  have hat9 := (Ty.at_ ResT [p, q, .int .u64 (sd : Int), s']).below hat8 hb
  have r19 := (Ty.sums 28 P).below r18 hb
  have r29 := (Ty.sums 28 K).below r28 hb
  have hu9 := TM.below hu8 hb
  have hB9 := hB
  replace hB := Below.refl w9.heap.size w9
  refine wp_mono (Q := fun e a w' => e = .normal ∧ Fr 63 [(11, Ty.ex v11), (46, Ty.ex (.bool (decide (0 < (minusL K M).length) || decide (0 < (bothL P M).length))))] a w' ∧ Below w9.heap.size w9 w') ?_ ?_
  · cases hA : decide (0 < (minusL K M).length) with
    | true =>
      rw [hA] at hF
      rw [Bool.true_or]
      refine cond_t hF rfl ?_
      repeat with_reducible refine wp_skip ?_
      exact ⟨rfl, hF.keep [11, 46], hB⟩
    | false =>
      rw [hA] at hF
      rw [Bool.false_or]
      refine cond_f hF rfl ?_
      refine' reg_all hF ?_ mixed (by kernel_rfl) ?_
      rotate_left
      · repeat (first | exact Line.nil | ((refine' Line.cons rfl (.run rfl rfl ?_) ?_); (any_goals (first | exact cMove rfl rfl | exact cAssign rfl rfl | exact cResP rfl (.l rfl hat9) | exact cLoad1 (u := p) rfl (.t rfl) (pts_at _ _) Tryz.underlying30 rfl | exact cCallS2 rfl (.l rfl r19) (.l rfl hu9) hbt | exact cLenH rfl (.t rfl) (Ty.seg_isSl _ _ _ _ _) Tryz.underlying30 | exact OpOk.b (cGtr rfl rfl rfl) e2)); rotate_left))
      intro a w10 hF hb hN
      have hBs := hB.size
      replace hB := hB.trans (hb.mono hB.size)
      dsimp only [ext, Option.getD] at hF
      exact ⟨rfl, hF.keep [11, 46], hB⟩
  clear hF hB
  rintro e a w10 ⟨rfl, hF, hb⟩
  have hB := hB9.trans (hb.mono hB9.size)
  replace hat9 := (Ty.at_ ResT [p, q, .int .u64 (sd : Int), s']).below hat9 hb
  replace r19 := (Ty.sums 28 P).below r19 hb
  replace r29 := (Ty.sums 28 K).below r29 hb
  repeat with_reducible refine nThen ?_
  cases hbad : (decide (0 < (minusL K M).length) || decide (0 < (bothL P M).length)) with
  | true =>
    rw [hbad] at hF
    refine cond_t hF rfl ?_
    repeat with_reducible refine wp_seq ?_
    refine' reg_all hF ?_ mixed (by kernel_rfl) ?_
    rotate_left
    · repeat (first | exact Line.nil | ((refine' Line.cons rfl (.run rfl rfl ?_) ?_); (any_goals exact cAssign rfl rfl); rotate_left))
    intro a w11 hF hb hN
    have hBs := hB.size
    replace hB := hB.trans (hb.mono hB.size)
    dsimp only [ext, Option.getD] at hF
    repeat with_reducible first | refine nThen ?_ | refine wp_ret ?_ | refine rThen ?_ | refine rBlk ?_
    refine ret3 hF rfl rfl rfl rfl fun a b c ha hb hc => ?_
    exact ⟨_, rfl, ⟨[a, b, c], rfl, by rw [show a = nilS from ha]; exact sums_nil _, by rw [show b = nilS from hb]; exact sums_nil _, hc, trivial⟩, hB⟩
  | false =>
    rw [hbad] at hF
    refine cond_f hF rfl ?_
    repeat with_reducible first | refine wp_seq ?_ | refine nThen ?_ | refine nBlk ?_ | refine wp_skip ?_
    refine' reg_all hF ?_ mixed (by kernel_rfl) ?_
    rotate_left
    · repeat (first | exact Line.nil | ((refine' Line.cons rfl (.run rfl rfl ?_) ?_); (any_goals (first | exact cAssign rfl rfl | exact cResP rfl (.l rfl hat9) | exact cResM rfl (.l rfl hat9) | exact cLoad1 (u := p) rfl (.t rfl) (pts_at _ _) Tryz.underlying30 rfl | exact cLoad1 (u := q) rfl (.t rfl) (pts_at _ _) Tryz.underlying30 rfl)); rotate_left))
    intro a w11 hF hb hN
    have hBs := hB.size
    replace hB := hB.trans (hb.mono hB.size)
    dsimp only [ext, Option.getD] at hF
    repeat with_reducible first | refine nThen ?_ | refine wp_ret ?_
    refine ret3 hF rfl rfl rfl rfl fun a b c ha hb' hc => ?_
    exact ⟨_, rfl, ⟨[a, b, c], rfl, by rw [show a = p from ha]; exact (Ty.sums 28 P).below r19 hb, by rw [show b = q from hb']; exact (Ty.sums 28 K).below r29 hb, hc, trivial⟩, hB⟩
end Go.Proofs.YtmefpnklgfhggaaGreatDoor

/- Layer 16 by types: awake, PeelSelf, PeelOne, PeelRoom. -/
namespace Go.Proofs.YtmefpnklgfhggaaGreatDoor
open Go.RowKit

theorem few12 : ¬ fewS 1 = fewS 2 := fun h => absurd (congrArg Sm.l h) (by decide +kernel)
theorem few13 : ¬ fewS 1 = fewS 3 := fun h => absurd (congrArg Sm.l h) (by decide +kernel)
theorem few23 : ¬ fewS 2 = fewS 3 := fun h => absurd (congrArg Sm.l h) (by decide +kernel)
/-- Two and two, one of them in both. -/
theorem less_two {a b c : Sm} (hab : ¬ a = b) (hac : ¬ a = c) (hbc : ¬ b = c) : minusL (setL [a, b]) (setL [b, c]) = [a] ∧ minusL (setL [b, c]) (setL [a, b]) = [c] := by
  constructor
  · refine srt_ext (minusL_srt _ _) (s_one _) fun x => ?_
    rw [minusL_mem, setL_mem, setL_mem]
    simp only [List.mem_cons, List.not_mem_nil, or_false, not_or]
    constructor
    · rintro ⟨h1 | h1, h2, h3⟩
      · exact h1
      · exact absurd h1 h2
    · rintro rfl
      exact ⟨.inl rfl, hab, hac⟩
  · refine srt_ext (minusL_srt _ _) (s_one _) fun x => ?_
    rw [minusL_mem, setL_mem, setL_mem]
    simp only [List.mem_cons, List.not_mem_nil, or_false, not_or]
    constructor
    · rintro ⟨h1 | h1, h2, h3⟩
      · exact absurd h1 h3
      · exact h1
    · rintro rfl
      exact ⟨.inr rfl, fun h => hac h.symm, fun h => hbc h.symm⟩
theorem fewL_one (z : Int) : fewL [z] = [fewS z] := setL_self (s_one _)
theorem fewL_srt (l : List Int) : srt (fewL l) := setL_srt _
theorem same_one (x : Sm) : sameL [x] [x] = true := sameL_true (s_one _) (by simp) rfl
end Go.Proofs.YtmefpnklgfhggaaGreatDoor

/- Layer 16 by types: a result's fields; PeelAll. -/
namespace Go.Proofs.YtmefpnklgfhggaaGreatDoor
open Go.RowKit

/-- The address of a slice that is read. -/
def Ty.selS (t e : TypeId) (n : Nat) (xs : List Value) : Ty := ⟨fun w v => ∃ p, (Ty.at_ t [p]).p w v ∧ SlP w e p n xs, fun u => u == t || u == e, fun ⟨p, h1, h2⟩ k hA =>
  ⟨p, (Ty.at_ t _).st h1 k fun b hb hl => let ⟨cs, t', fr, k1, k2⟩ := hA b hb hl; ⟨cs, t', fr, k1, (Bool.or_eq_false_iff.1 k2).1⟩, (Ty.sl e n xs).st h2 k fun b hb hl => let ⟨cs, t', fr, k1, k2⟩ := hA b hb hl; ⟨cs, t', fr, k1, (Bool.or_eq_false_iff.1 k2).2⟩⟩⟩
section
variable {w0 : World} {Γ : Ctx} {o : Oper} {x : Operand} {P M : List Sm} {sd : Nat} {L : List Cl}
theorem cSelP (ho : o.op = .fieldAddr ResT x 0) (hx : Has w0 Γ x (Ty.resA P M sd L)) : OpOk Tryz.prog w0 Γ o (Ty.selS ResT 28 P.length (flat P)) :=
  .val fun a w hb hs => by
    obtain ⟨v, h1, p, q, s, ⟨g, off, cs, fr, rfl, h2, h3⟩, k1, k2, k3⟩ := hx.see hs (by simp [ho, Op.operands]) hb
    have hr := run_fieldAt (P := Tryz.prog) (i := 0) Tryz.underlying136 rfl sizeSL1 g off w
    refine ⟨.pointer (some ⟨g, off + 0, none⟩), ⟨p, ⟨g, off + 0, cs, fr, rfl, h2, fun j u hu => ?_⟩, k1⟩, ?_⟩
    · cases j with
      | zero => exact h3 0 u hu
      | succ j => simp at hu
    · unfold execOp
      simp [ho, h1, hr]
theorem cSelM (ho : o.op = .fieldAddr ResT x 1) (hx : Has w0 Γ x (Ty.resA P M sd L)) : OpOk Tryz.prog w0 Γ o (Ty.selS ResT 28 M.length (flat M)) :=
  .val fun a w hb hs => by
    obtain ⟨v, h1, p, q, s, ⟨g, off, cs, fr, rfl, h2, h3⟩, k1, k2, k3⟩ := hx.see hs (by simp [ho, Op.operands]) hb
    have hr := run_fieldAt (P := Tryz.prog) (i := 1) Tryz.underlying136 rfl sizeSL1 g off w
    refine ⟨.pointer (some ⟨g, off + 1, none⟩), ⟨q, ⟨g, off + 1, cs, fr, rfl, h2, fun j u hu => ?_⟩, k2⟩, ?_⟩
    · cases j with
      | zero => exact h3 1 u hu
      | succ j => simp at hu
    · unfold execOp
      simp [ho, h1, hr]
theorem cLoadSel {t e : TypeId} {n : Nat} {xs : List Value} (ho : o.op = .load 30 x) (hx : OpT Γ x (Ty.selS t e n xs)) : OpOk Tryz.prog w0 Γ o (Ty.sl e n xs) :=
  .val fun a w hb hs => by
    obtain ⟨v, h1, p, hat, hsl⟩ := hs x _ (by simp [ho, Op.operands]) hx
    obtain ⟨ad, rfl, h3⟩ := pts_at _ _ w v hat
    refine ⟨p, hsl, ?_⟩
    have h4 := run_loadVar_one (P := Tryz.prog) h3 Tryz.underlying30 rfl
    unfold execOp
    simp [ho, h1, Instr.loadAt, Instr.sureAddr, h4]
end
end Go.Proofs.YtmefpnklgfhggaaGreatDoor

/- Strata by types: a row of tables; a strata. -/
namespace Go.Proofs.YtmefpnklgfhggaaGreatDoor
open Go.RowKit

abbrev StT : TypeId := 45
def flatT (sd : Nat) (ss : List Value) : List Value := ss.flatMap fun s => [.int .u64 (sd : Int), s]
theorem flatT_len (sd : Nat) (ss : List Value) : (flatT sd ss).length = ss.length * 2 := by
  induction ss with
  | nil => rfl
  | cons s ss ih =>
    have : flatT sd (s :: ss) = .int .u64 (sd : Int) :: s :: flatT sd ss := rfl
    rw [this, List.length_cons, List.length_cons, ih, List.length_cons]
    omega
theorem flatT_at (sd : Nat) : ∀ (ss : List Value) {k : Nat}, k < ss.length → (flatT sd ss).drop (k * 2) = [.int .u64 (sd : Int), ss.getD k nilS] ++ flatT sd (ss.drop (k + 1))
  | [], _, h => by simp at h
  | s :: ss, 0, _ => rfl
  | s :: ss, k + 1, h => by
    have : flatT sd (s :: ss) = .int .u64 (sd : Int) :: s :: flatT sd ss := rfl
    rw [this, show (k + 1) * 2 = k * 2 + 1 + 1 by omega, List.drop_succ_cons, List.drop_succ_cons, flatT_at sd ss (by simpa using h)]
    rfl
theorem flatT_snoc (sd : Nat) (ss : List Value) (s : Value) : flatT sd (ss ++ [s]) = flatT sd ss ++ [.int .u64 (sd : Int), s] := by
  unfold flatT
  rw [List.flatMap_append]
  rfl
/-- All of ss read the rows Ls. -/
def Slc (w : World) (e : TypeId) (ss : List Value) (Ls : List (List Cl)) : Prop := ss.length = Ls.length ∧ ∀ k, k < Ls.length → SlP w e (ss.getD k nilS) (Ls.getD k []).length (flatC (Ls.getD k []))
theorem Slc.nil (w : World) (e : TypeId) : Slc w e [] [] := ⟨rfl, fun k h => by simp at h⟩
theorem Slc.st {w w' : World} {e : TypeId} {ss : List Value} {Ls : List (List Cl)} {G : List Nat} (h : Slc w e ss Ls) (k : Keeps G w w') (hA : Apart w G (fun t => t == e)) : Slc w' e ss Ls := ⟨h.1, fun j hj => (Ty.cls e _).st (h.2 j hj) k hA⟩
theorem apart_l {w : World} {G : List Nat} {f g : TypeId → Bool} (h : Apart w G fun t => f t || g t) : Apart w G f := fun b hb hl => let ⟨cs, t, fr, k1, k2⟩ := h b hb hl; ⟨cs, t, fr, k1, (Bool.or_eq_false_iff.1 k2).1⟩
theorem apart_r {w : World} {G : List Nat} {f g : TypeId → Bool} (h : Apart w G fun t => f t || g t) : Apart w G g := fun b hb hl => let ⟨cs, t, fr, k1, k2⟩ := h b hb hl; ⟨cs, t, fr, k1, (Bool.or_eq_false_iff.1 k2).2⟩
/-- A row of tables, all of one seed. -/
def Ty.tabs (T e : TypeId) (sd : Nat) (Ls : List (List Cl)) : Ty := ⟨fun w v => ∃ ss, Slc w e ss Ls ∧ SlP w T v Ls.length (flatT sd ss), fun t => t == e || t == T, fun ⟨ss, h1, h2⟩ k hA => ⟨ss, h1.st k (apart_l hA), (Ty.sl T _ _).st h2 k (apart_r hA)⟩⟩
theorem Ty.tabs_isSl (T e : TypeId) (sd : Nat) (Ls : List (List Cl)) : IsSl (Ty.tabs T e sd Ls) Ls.length := fun _ _ ⟨_, _, A, c, h, _⟩ => ⟨A, c, h⟩
/-- A strata, its parts: a value of these two; an address that reads them; the address of the second. -/
def Ty.stra (T e : TypeId) (sd : Nat) (Ls : List (List Cl)) : Ty := ⟨fun w v => ∃ s, v = .agg #[.int .u64 (sd : Int), s] ∧ (Ty.tabs T e sd Ls).p w s, fun t => t == e || t == T, fun ⟨s, h1, h2⟩ k hA => ⟨s, h1, (Ty.tabs T e sd Ls).st h2 k hA⟩⟩
def Ty.straP (Z T e : TypeId) (sd : Nat) (Ls : List (List Cl)) : Ty := ⟨fun w v => ∃ s, (Ty.at_ Z [.int .u64 (sd : Int), s]).p w v ∧ (Ty.tabs T e sd Ls).p w s, fun t => t == Z || (t == e || t == T), fun ⟨s, h1, h2⟩ k hA => ⟨s, (Ty.at_ Z _).st h1 k (apart_l hA), (Ty.tabs T e sd Ls).st h2 k (apart_r hA)⟩⟩
def Ty.straL (Z T e : TypeId) (sd : Nat) (Ls : List (List Cl)) : Ty := ⟨fun w v => ∃ s, (Ty.at_ Z [s]).p w v ∧ (Ty.tabs T e sd Ls).p w s, fun t => t == Z || (t == e || t == T), fun ⟨s, h1, h2⟩ k hA => ⟨s, (Ty.at_ Z _).st h1 k (apart_l hA), (Ty.tabs T e sd Ls).st h2 k (apart_r hA)⟩⟩
section
variable {P : Program} {w0 : World} {Γ : Ctx} {o : Oper} {x ix : Operand} {T e Z : TypeId} {sd : Nat} {Ls : List (List Cl)}
theorem cIndexTab {t : TypeId} {kd : IntKind} {k : Nat} (ho : o.op = .indexAddr t x ix) (hx : Has w0 Γ x (Ty.tabs T e sd Ls)) (hi : OpT Γ ix (Ty.ex (.int kd (k : Int)))) (hu : P.underlying t = some (.slice T)) (hz : (P.info? T).map (·.size) = some 2) (hk : k < Ls.length) : OpOk P w0 Γ o (Ty.tabP T e sd (Ls.getD k [])) :=
  .val fun a w hb hs => by
    obtain ⟨v, h1, ss, ⟨hl, hss⟩, hsl⟩ := hx.see hs (by simp [ho, Op.operands]) hb
    obtain ⟨i, h5, h6⟩ := hs ix _ (by simp [ho, Op.operands]) hi
    have h6 : i = .int kd (k : Int) := h6
    have hsl0 := hsl
    obtain ⟨A, c, rfl, _, _, _, _⟩ := hsl0
    obtain ⟨g, off, rfl, hat⟩ := SlP.elem hsl (k := k * 2) (by rw [flatT_len]; omega)
    have hat := hat (k * 2)
    rw [flatT_at sd ss (by omega)] at hat
    obtain ⟨inf, hinf, hsz⟩ := Option.map_eq_some_iff.1 hz
    refine ⟨_, ⟨ss.getD k nilS, at_pre _ _ hat, hss k hk⟩, ?_⟩
    unfold execOp
    simp [ho, h1, h5, h6, Instr.indexAt, asIntOf, run_underlying hu, hk, sizeOf, typeInfo, hinf, hsz, Addr.add_lit]
end
section
variable {w0 : World} {Γ : Ctx} {o : Oper} {x ix : Operand} {T e : TypeId} {sd : Nat} {Ls : List (List Cl)}
theorem sizeTLA : (Tryz.prog.info? 43).map (·.size) = some 1 := by kernel_rfl
theorem infoStA : (Tryz.prog.info? StT).map (fun i => (i.zero, i.size, i.bytes)) = some (some (.agg #[.int .u64 0, nilS]), 2, 32) := by kernel_rfl
theorem sizeStA : (Tryz.prog.info? StT).map (·.size) = some 2 := by kernel_rfl
theorem cStraSA (ho : o.op = .fieldAddr StT x 0) (hx : Has w0 Γ x (Ty.straP StT T e sd Ls)) : OpOk Tryz.prog w0 Γ o (Ty.at_ StT [.int .u64 (sd : Int)]) :=
  .val fun a w hb hs => by
    obtain ⟨v, h1, s, ⟨g, off, cs, fr, rfl, h2, h3⟩, k1⟩ := hx.see hs (by simp [ho, Op.operands]) hb
    have hr := run_fieldAt (P := Tryz.prog) (i := 0) Tryz.underlying45 rfl size_u64 g off w
    refine ⟨.pointer (some ⟨g, off + 0, none⟩), ⟨g, off + 0, cs, fr, rfl, h2, fun j u hu => ?_⟩, ?_⟩
    · cases j with
      | zero => exact h3 0 u hu
      | succ j => simp at hu
    · unfold execOp
      simp [ho, h1, hr]
theorem cStraLA (ho : o.op = .fieldAddr StT x 1) (hx : Has w0 Γ x (Ty.straP StT T e sd Ls)) : OpOk Tryz.prog w0 Γ o (Ty.straL StT T e sd Ls) :=
  .val fun a w hb hs => by
    obtain ⟨v, h1, s, ⟨g, off, cs, fr, rfl, h2, h3⟩, k1⟩ := hx.see hs (by simp [ho, Op.operands]) hb
    have hr := run_fieldAt (P := Tryz.prog) (i := 1) Tryz.underlying45 rfl sizeTLA g off w
    refine ⟨.pointer (some ⟨g, off + 1, none⟩), ⟨s, ⟨g, off + 1, cs, fr, rfl, h2, fun j u hu => ?_⟩, k1⟩, ?_⟩
    · cases j with
      | zero => exact h3 1 u hu
      | succ j => simp at hu
    · unfold execOp
      simp [ho, h1, hr]
theorem cLoadTsA (ho : o.op = .load 43 x) (hx : Has w0 Γ x (Ty.straL StT T e sd Ls)) : OpOk Tryz.prog w0 Γ o (Ty.tabs T e sd Ls) :=
  .val fun a w hb hs => by
    obtain ⟨v, h1, s, hat, hsl⟩ := hx.see hs (by simp [ho, Op.operands]) hb
    obtain ⟨ad, rfl, h3⟩ := pts_at _ _ w v hat
    refine ⟨s, hsl, ?_⟩
    have h4 := run_loadVar_one (P := Tryz.prog) h3 Tryz.underlying43 rfl
    unfold execOp
    simp [ho, h1, Instr.loadAt, Instr.sureAddr, h4]
theorem cLoadStA (ho : o.op = .load StT x) (hx : Has w0 Γ x (Ty.straP StT T e sd Ls)) : OpOk Tryz.prog w0 Γ o (Ty.stra T e sd Ls) :=
  .val fun a w hb hs => by
    obtain ⟨v, h1, s, hat, hsl⟩ := hx.see hs (by simp [ho, Op.operands]) hb
    obtain ⟨ad, rfl, h3⟩ := pts_at _ _ w v hat
    refine ⟨.agg #[.int .u64 (sd : Int), s], ⟨s, rfl, hsl⟩, ?_⟩
    have h4 := run_loadVar_rd (P := Tryz.prog) h3 Tryz.underlying45 rfl (by rw [sizeStA]; rfl)
    unfold execOp
    simp [ho, h1, Instr.loadAt, Instr.sureAddr, h4]
theorem cIdxTA {kd : IntKind} {k : Nat} (ho : o.op = .indexAddr 43 x ix) (hx : Has w0 Γ x (Ty.tabs 40 e sd Ls)) (hi : OpT Γ ix (Ty.ex (.int kd (k : Int)))) (hk : k < Ls.length) : OpOk Tryz.prog w0 Γ o (Ty.tabP 40 e sd (Ls.getD k [])) := cIndexTab ho hx hi Tryz.underlying43 sizeT46 hk
theorem cLenTA (ho : o.op = .call { callee := .builtin .len, args := #[x], argTypes := #[43] }) (hx : Has w0 Γ x (Ty.tabs T e sd Ls)) : OpOk Tryz.prog w0 Γ o (Ty.ex (.int .i64 (Ls.length : Int))) := cLenH ho hx (Ty.tabs_isSl _ _ _ _) Tryz.underlying43
end
end Go.Proofs.YtmefpnklgfhggaaGreatDoor

/- Strata by types: Cells, Good. -/
namespace Go.Proofs.YtmefpnklgfhggaaGreatDoor
open Go.RowKit

section
variable {P : Program} {w0 : World} {Γ : Ctx} {o : Oper}
theorem cMaxI {t1 t2 : TypeId} {x : Operand} {m n : Int} (ho : o.op = .call { callee := .builtin .max, args := #[x, .const (.int .i64 n)], argTypes := #[t1, t2] }) (hx : OpT Γ x (Ty.ex (.int .i64 m))) : OpOk P w0 Γ o (Ty.ex (.int .i64 (max m n))) :=
  .val fun a w _ hs => by
    obtain ⟨v, h1, h2⟩ := hs x _ (by simp [ho, Op.operands, Call.operands]) hx
    have h2 : v = .int .i64 m := h2
    refine ⟨_, rfl, ?_⟩
    unfold execOp
    have hc : a.eval (.const (.int .i64 n)) = .int .i64 n := rfl
    simp [ho, h1, h2, hc, resolve, invoke, builtin, Builtin.max_, Builtin.max2]
    omega
theorem cMinT {t1 t2 : TypeId} {x y : Operand} {m n : Int} (ho : o.op = .call { callee := .builtin .min, args := #[x, y], argTypes := #[t1, t2] }) (hx : OpT Γ x (Ty.ex (.int .i64 m))) (hy : OpT Γ y (Ty.ex (.int .i64 n))) : OpOk P w0 Γ o (Ty.ex (.int .i64 (min m n))) :=
  .val fun a w _ hs => by
    obtain ⟨v, h1, h2⟩ := hs x _ (by simp [ho, Op.operands, Call.operands]) hx
    obtain ⟨u, h3, h4⟩ := hs y _ (by simp [ho, Op.operands, Call.operands]) hy
    have h2 : v = .int .i64 m := h2
    have h4 : u = .int .i64 n := h4
    refine ⟨_, rfl, ?_⟩
    unfold execOp
    simp [ho, h1, h2, h3, h4, resolve, invoke, builtin, Builtin.min_, Builtin.min2]
    omega
/-- A call through a closure. -/
theorem cCallCT {f : FuncId} {ats : Array TypeId} {x0 x : Operand} {cb : Array Value} {τ ρ : Ty} (ho : o.op = .call { callee := .value x0, args := #[x], argTypes := ats }) (h0 : OpT Γ x0 (Ty.ex (.func (.func f) #[] cb))) (hx : Has w0 Γ x τ) (he : Enters P f) (hc : ∀ w v, Below w0.heap.size w0 w → τ.p w v → Ret P f (#[v] ++ cb) w ρ) : OpOk P w0 Γ o ρ :=
  .call fun a w hb hs => by
    obtain ⟨v0, k1, k2⟩ := hs x0 _ (by simp [ho, Op.operands, Call.operands]) h0
    have k2 : v0 = .func (.func f) #[] cb := k2
    obtain ⟨u, h1, h2⟩ := hx.see hs (by simp [ho, Op.operands, Call.operands]) hb
    refine ⟨f, #[u] ++ cb, ?_, hc w u hb h2⟩
    rw [exec_goV a.eval ho (k1.trans k2)]
    simp only [List.map_toArray, List.map_cons, List.map_nil, h1]
    exact he _ w
end
section
variable {w0 : World} {Γ : Ctx} {o : Oper} {x : Operand} {e : TypeId} {xs : List Value}
theorem cSt0 (ho : o.op = .fieldAddr StT x 0) (hx : Has w0 Γ x (Ty.at_ e xs)) : OpOk Tryz.prog w0 Γ o (Ty.at_ e xs) :=
  (cFieldE (P := Tryz.prog) ho hx Tryz.underlying45 rfl size_u64).conv fun _ _ h => h
theorem cSt1 (ho : o.op = .fieldAddr StT x 1) (hx : Has w0 Γ x (Ty.at_ e xs)) : OpOk Tryz.prog w0 Γ o (Ty.at_ e (xs.drop 1)) :=
  cFieldE (P := Tryz.prog) ho hx Tryz.underlying45 rfl sizeTLA
end
set_option maxRecDepth 100000 in
theorem cells_ty (d : Int) : Fn1 Tryz.prog 43 (Ty.ex (.int .i64 d)) (Ty.ex (.int .i64 (cellsN d))) := by
  refine ⟨fun args w => by kernel_rfl, fun w v hv => ?_⟩
  by_cases c1 : 1023 ≤ d
  · have e : cellsN d = 1023 := by unfold cellsN; rw [if_pos c1]
    rw [e]
    refine enter_ty 22 [Ty.ex (.int .i64 d)] Tryz.func43 rfl (by kernel_rfl) ⟨hv, trivial⟩ fun a hF => ?_
    have hB := Below.refl w.heap.size w
    repeat with_reducible first | refine wp_seq ?_ | refine nThen ?_ | refine wp_skip ?_ | refine wp_ret ?_ | refine rThen ?_
    refine' reg_all hF ?_ mixed (by kernel_rfl) ?_
    rotate_left
    · repeat (first
          | exact Line.nil
          | ((refine' Line.cons rfl (.run rfl rfl ?_) ?_)
             any_goals (first | exact cMove rfl rfl | exact cAssign rfl rfl | exact cGeq rfl rfl rfl)
             rotate_left))
    intro a w1 hF hb hN
    have hBs := hB.size
    replace hB := hB.trans (hb.mono hB.size)
    dsimp only [ext, Option.getD] at hF
    repeat with_reducible first | refine wp_seq ?_ | refine nThen ?_ | refine wp_skip ?_ | refine wp_ret ?_ | refine rThen ?_
    refine' reg_all hF ?_ mixed (by kernel_rfl) ?_
    rotate_left
    · repeat (first
          | exact Line.nil
          | ((refine' Line.cons rfl (.run rfl rfl ?_) ?_)
             any_goals (first | exact cMove rfl rfl | exact cAssign rfl rfl | exact cGeq rfl rfl rfl)
             rotate_left))
    intro a w2 hF hb hN
    have hBs := hB.size
    replace hB := hB.trans (hb.mono hB.size)
    dsimp only [ext, Option.getD] at hF
    repeat with_reducible first | refine wp_seq ?_ | refine nThen ?_ | refine wp_skip ?_ | refine wp_ret ?_ | refine rThen ?_
    refine' reg_all hF ?_ mixed (by kernel_rfl) ?_
    rotate_left
    · repeat (first
          | exact Line.nil
          | ((refine' Line.cons rfl (.run rfl rfl ?_) ?_)
             any_goals (first | exact cMove rfl rfl | exact cAssign rfl rfl | exact OpOk.b (c := true) (cGeq rfl rfl rfl) (decide_eq_true (by omega)) | exact cGeq rfl rfl rfl)
             rotate_left))
    intro a w3 hF hb hN
    have hBs := hB.size
    replace hB := hB.trans (hb.mono hB.size)
    dsimp only [ext, Option.getD] at hF
    repeat with_reducible first | refine wp_seq ?_ | refine nThen ?_ | refine wp_skip ?_ | refine wp_ret ?_ | refine rThen ?_
    refine cond_t hF rfl ?_
    repeat with_reducible first | refine wp_seq ?_ | refine nThen ?_ | refine wp_skip ?_ | refine wp_ret ?_ | refine rThen ?_
    refine' reg_all hF ?_ mixed (by kernel_rfl) ?_
    rotate_left
    · repeat (first
          | exact Line.nil
          | ((refine' Line.cons rfl (.run rfl rfl ?_) ?_)
             any_goals (first | exact cMove rfl rfl | exact cAssign rfl rfl | exact cGeq rfl rfl rfl)
             rotate_left))
    intro a w4 hF hb hN
    have hBs := hB.size
    replace hB := hB.trans (hb.mono hB.size)
    dsimp only [ext, Option.getD] at hF
    repeat with_reducible first | refine wp_seq ?_ | refine nThen ?_ | refine wp_skip ?_ | refine wp_ret ?_ | refine rThen ?_
    refine ret1 hF rfl rfl fun z hz => ?_
    exact ⟨z, rfl, hz, hB⟩
  obtain ⟨D, hD⟩ : ∃ D : Nat, max d 0 = (D : Int) := ⟨(max d 0).toNat, by omega⟩
  have hD2 : D < 1023 := by omega
  obtain ⟨Q, hQ⟩ : ∃ Q : Nat, Q = (3 * D + 1) / 2 := ⟨_, rfl⟩
  obtain ⟨M, hM⟩ : ∃ M : Nat, M = max Q 12 := ⟨_, rfl⟩
  obtain ⟨R, hR⟩ : ∃ R : Nat, R = (M + 2) / 3 := ⟨_, rfl⟩
  have e : cellsN d = min ((R * 3 : Nat) : Int) 1023 := by
    unfold cellsN
    rw [if_neg c1]
    omega
  rw [e]
  refine enter_ty 22 [Ty.ex (.int .i64 d)] Tryz.func43 rfl (by kernel_rfl) ⟨hv, trivial⟩ fun a hF => ?_
  have hB := Below.refl w.heap.size w
  repeat with_reducible first | refine wp_seq ?_ | refine nThen ?_ | refine wp_skip ?_ | refine wp_ret ?_ | refine rThen ?_
  refine' reg_all hF ?_ mixed (by kernel_rfl) ?_
  rotate_left
  · repeat (first
        | exact Line.nil
        | ((refine' Line.cons rfl (.run rfl rfl ?_) ?_)
           any_goals (first | exact cMove rfl rfl | exact cAssign rfl rfl | exact cGeq rfl rfl rfl)
           rotate_left))
  intro a w1 hF hb hN
  have hBs := hB.size
  replace hB := hB.trans (hb.mono hB.size)
  dsimp only [ext, Option.getD] at hF
  repeat with_reducible first | refine wp_seq ?_ | refine nThen ?_ | refine wp_skip ?_ | refine wp_ret ?_ | refine rThen ?_
  refine' reg_all hF ?_ mixed (by kernel_rfl) ?_
  rotate_left
  · repeat (first
        | exact Line.nil
        | ((refine' Line.cons rfl (.run rfl rfl ?_) ?_)
           any_goals (first | exact cMove rfl rfl | exact cAssign rfl rfl | exact cGeq rfl rfl rfl)
           rotate_left))
  intro a w2 hF hb hN
  have hBs := hB.size
  replace hB := hB.trans (hb.mono hB.size)
  dsimp only [ext, Option.getD] at hF
  repeat with_reducible first | refine wp_seq ?_ | refine nThen ?_ | refine wp_skip ?_ | refine wp_ret ?_ | refine rThen ?_
  refine' reg_all hF ?_ mixed (by kernel_rfl) ?_
  rotate_left
  · repeat (first
        | exact Line.nil
        | ((refine' Line.cons rfl (.run rfl rfl ?_) ?_)
           any_goals (first | exact cMove rfl rfl | exact cAssign rfl rfl | exact OpOk.b (c := false) (cGeq rfl rfl rfl) (decide_eq_false (by omega)) | exact cGeq rfl rfl rfl)
           rotate_left))
  intro a w3 hF hb hN
  have hBs := hB.size
  replace hB := hB.trans (hb.mono hB.size)
  dsimp only [ext, Option.getD] at hF
  repeat with_reducible first | refine wp_seq ?_ | refine nThen ?_ | refine wp_skip ?_ | refine wp_ret ?_ | refine rThen ?_
  refine cond_f hF rfl ?_
  repeat with_reducible first | refine wp_seq ?_ | refine nThen ?_ | refine wp_skip ?_ | refine wp_ret ?_ | refine rThen ?_
  refine wp_region_lit ?_
  refine' tlOp hF rfl rfl rfl ?_ ?_
  rotate_left
  · first | exact cMove rfl rfl | exact cAssign rfl rfl | exact cGeq rfl rfl rfl
  intro a w4 hF hb
  have hBs := hB.size
  replace hB := hB.trans (hb.mono hB.size)
  try (refine wpList_nil ?_)
  repeat with_reducible first | refine wp_seq ?_ | refine nThen ?_ | refine wp_skip ?_ | refine wp_ret ?_ | refine rThen ?_
  refine' tlOp hF rfl rfl rfl ?_ ?_
  rotate_left
  · first | exact cMaxI rfl rfl | exact cMove rfl rfl | exact cAssign rfl rfl | exact cGeq rfl rfl rfl
  intro a w5 hF hb
  have hBs := hB.size
  replace hB := hB.trans (hb.mono hB.size)
  try (refine wpList_nil ?_)
  repeat with_reducible first | refine wp_seq ?_ | refine nThen ?_ | refine wp_skip ?_ | refine wp_ret ?_ | refine rThen ?_
  rw [hD] at hF
  refine' tlOp hF rfl rfl rfl ?_ ?_
  rotate_left
  · first | exact cMul (r := ((3 * D : Nat) : Int)) rfl rfl rfl (by omega) | exact cMove rfl rfl | exact cAssign rfl rfl | exact cGeq rfl rfl rfl
  intro a w6 hF hb
  have hBs := hB.size
  replace hB := hB.trans (hb.mono hB.size)
  try (refine wpList_nil ?_)
  repeat with_reducible first | refine wp_seq ?_ | refine nThen ?_ | refine wp_skip ?_ | refine wp_ret ?_ | refine rThen ?_
  refine' tlOp hF rfl rfl rfl ?_ ?_
  rotate_left
  · first | exact cAdd (r := ((3 * D + 1 : Nat) : Int)) rfl rfl rfl (by omega) | exact cMove rfl rfl | exact cAssign rfl rfl | exact cGeq rfl rfl rfl
  intro a w7 hF hb
  have hBs := hB.size
  replace hB := hB.trans (hb.mono hB.size)
  try (refine wpList_nil ?_)
  repeat with_reducible first | refine wp_seq ?_ | refine nThen ?_ | refine wp_skip ?_ | refine wp_ret ?_ | refine rThen ?_
  refine' tlOp hF rfl rfl rfl ?_ ?_
  rotate_left
  · first | exact cQuoI (n := 2) (r := Q) rfl rfl rfl (by omega) (by omega) (by omega) | exact cMove rfl rfl | exact cAssign rfl rfl | exact cGeq rfl rfl rfl
  intro a w8 hF hb
  have hBs := hB.size
  replace hB := hB.trans (hb.mono hB.size)
  try (refine wpList_nil ?_)
  repeat with_reducible first | refine wp_seq ?_ | refine nThen ?_ | refine wp_skip ?_ | refine wp_ret ?_ | refine rThen ?_
  refine' tlOp hF rfl rfl rfl ?_ ?_
  rotate_left
  · first | exact cMaxI rfl rfl | exact cMove rfl rfl | exact cAssign rfl rfl | exact cGeq rfl rfl rfl
  intro a w9 hF hb
  have hBs := hB.size
  replace hB := hB.trans (hb.mono hB.size)
  try (refine wpList_nil ?_)
  repeat with_reducible first | refine wp_seq ?_ | refine nThen ?_ | refine wp_skip ?_ | refine wp_ret ?_ | refine rThen ?_
  rw [show max (Q : Int) 12 = (M : Int) by omega] at hF
  refine' tlOp hF rfl rfl rfl ?_ ?_
  rotate_left
  · first | exact cMove rfl rfl | exact cAssign rfl rfl | exact cGeq rfl rfl rfl
  intro a w10 hF hb
  have hBs := hB.size
  replace hB := hB.trans (hb.mono hB.size)
  try (refine wpList_nil ?_)
  repeat with_reducible first | refine wp_seq ?_ | refine nThen ?_ | refine wp_skip ?_ | refine wp_ret ?_ | refine rThen ?_
  refine' reg_all hF ?_ mixed (by kernel_rfl) ?_
  rotate_left
  · repeat (first
        | exact Line.nil
        | ((refine' Line.cons rfl (.run rfl rfl ?_) ?_)
           any_goals (first | exact cMove rfl rfl | exact cAssign rfl rfl | exact cAdd (r := ((M + 3 : Nat) : Int)) rfl rfl rfl (by omega) | exact cSub (r := ((M + 2 : Nat) : Int)) rfl rfl rfl (by omega) | exact cQuoI (n := 3) (r := R) rfl rfl rfl (by omega) (by omega) (by omega) | exact cMul (r := ((R * 3 : Nat) : Int)) rfl rfl rfl (by omega) | exact cMinT rfl rfl rfl | exact cGeq rfl rfl rfl)
           rotate_left))
  intro a w11 hF hb hN
  have hBs := hB.size
  replace hB := hB.trans (hb.mono hB.size)
  dsimp only [ext, Option.getD] at hF
  repeat with_reducible first | refine wp_seq ?_ | refine nThen ?_ | refine wp_skip ?_ | refine wp_ret ?_ | refine rThen ?_
  refine ret1 hF rfl rfl fun z hz => ?_
  exact ⟨z, rfl, hz, hB⟩
/-- All tables are of 24 cells. -/
def allG (Ls : List (List Cl)) : Bool := Ls.all fun L => decide (L.length = 24)
theorem goodSt_is (Ls : List (List Cl)) : goodSt Ls = (decide (Ls.length = 10) && allG Ls) := rfl
theorem allG_bad {Ls : List (List Cl)} {k : Nat} (hk : k < Ls.length) (h : ¬ (Ls.getD k []).length = 24) : allG Ls = false := by
  unfold allG
  rw [List.all_eq_false]
  exact ⟨Ls[k], List.getElem_mem hk, by simpa [List.getD, List.getElem?_eq_getElem hk] using h⟩
theorem allG_all {Ls : List (List Cl)} (h : ∀ k, k < Ls.length → (Ls.getD k []).length = 24) : allG Ls = true := by
  unfold allG
  rw [List.all_eq_true]
  intro c hc
  obtain ⟨k, hk, rfl⟩ := List.getElem_of_mem hc
  simpa [List.getD, List.getElem?_eq_getElem hk] using h k hk
theorem goodSt_get {Ls : List (List Cl)} (h : goodSt Ls = true) : Ls.length = 10 ∧ ∀ k, k < 10 → (Ls.getD k []).length = 24 := by
  rw [goodSt_is, Bool.and_eq_true] at h
  have hl := of_decide_eq_true h.1
  refine ⟨hl, fun k hk => Classical.byContradiction fun hb => ?_⟩
  rw [allG_bad (by omega) hb] at h
  cases h.2
abbrev oddFn (p : Value) : Value := .func (.func 109) #[] #[p]
set_option maxRecDepth 100000 in
theorem odd_ret (sd : Nat) (L : List Cl) (s p : Value) (w : World) (v : Value) (hv : (Ty.tab 69 sd L).p w v) (hp : (Ty.at_ StT [.int .u64 (sd : Int), s]).p w p) : Ret Tryz.prog 109 #[v, p] w (Ty.ex (.bool (!decide (L.length = 24)))) := by
  obtain ⟨s2, rfl, hs⟩ := hv
  by_cases hl : L.length = 24
  · rw [decide_eq_true hl]
    refine enter_ty 15 [Ty.ex (.agg #[.int .u64 (sd : Int), s2]), Ty.ex p] Tryz.func109 rfl (by kernel_rfl) ⟨rfl, rfl, trivial⟩ fun a hF => ?_
    have hB := Below.refl w.heap.size w
    repeat with_reducible first | refine wp_seq ?_ | refine nThen ?_ | refine wp_ret ?_
    refine' reg_all hF ?_ mixed (by kernel_rfl) ?_
    rotate_left
    · repeat (first
          | exact Line.nil
          | (refine' Line.cons rfl (.no rfl rfl rfl rfl rfl rfl) ?_; rotate_left)
          | ((first | refine' Line.cons rfl (.run rfl rfl ?_) ?_ | refine' Line.cons rfl (.yes rfl rfl rfl rfl ?_) ?_)
             any_goals (first | exact cMove rfl rfl | exact cAssign rfl rfl | exact cBoxTab rfl rfl | exact cPickT rfl rfl rfl | exact cPickF rfl rfl rfl | exact cNeq rfl rfl rfl)
             rotate_left))
    intro a w1 hF hb hN
    have hBs := hB.size
    replace hB := hB.trans (hb.mono hB.size)
    dsimp only [ext, Option.getD] at hF
    repeat with_reducible first | refine wp_seq ?_ | refine nThen ?_ | refine wp_ret ?_
    have hs1 := (Ty.cls 69 L).below hs hB
    have hp1 := (Ty.at_ StT _).below hp hB
    refine' reg_all hF ?_ mixed (by kernel_rfl) ?_
    rotate_left
    · repeat (first
          | exact Line.nil
          | (refine' Line.cons rfl (.no rfl rfl rfl rfl rfl rfl) ?_; rotate_left)
          | ((first | refine' Line.cons rfl (.run rfl rfl ?_) ?_ | refine' Line.cons rfl (.yes rfl rfl rfl rfl ?_) ?_)
             any_goals (first | exact cMove rfl rfl | exact cAssign rfl rfl | exact cFldL46 rfl (.t rfl) | exact cRowOf46 rfl (.t rfl) | exact cLenH rfl (.l rfl hs1) (Ty.sl_isSl _ _ _) Tryz.underlying38 | exact OpOk.b (c := false) (cNeq rfl rfl rfl) (by simp [hl]) | exact cFldS46 rfl (.t rfl) | exact cSt0 rfl (.l rfl hp1) | exact cLoadU64 rfl (.t rfl) | exact OpOk.b (c := false) (cNeq rfl rfl rfl) (by simp) | exact cPickT rfl rfl rfl | exact cPickF rfl rfl rfl | exact cNeq rfl rfl rfl)
             rotate_left))
    intro a w2 hF hb hN
    have hBs := hB.size
    replace hB := hB.trans (hb.mono hB.size)
    dsimp only [ext, Option.getD] at hF
    repeat with_reducible first | refine wp_seq ?_ | refine nThen ?_ | refine wp_ret ?_
    refine ret1 hF rfl rfl fun z hz => ?_
    exact ⟨z, rfl, hz, hB⟩
  · rw [decide_eq_false hl]
    refine enter_ty 15 [Ty.ex (.agg #[.int .u64 (sd : Int), s2]), Ty.ex p] Tryz.func109 rfl (by kernel_rfl) ⟨rfl, rfl, trivial⟩ fun a hF => ?_
    have hB := Below.refl w.heap.size w
    repeat with_reducible first | refine wp_seq ?_ | refine nThen ?_ | refine wp_ret ?_
    refine' reg_all hF ?_ mixed (by kernel_rfl) ?_
    rotate_left
    · repeat (first
          | exact Line.nil
          | (refine' Line.cons rfl (.no rfl rfl rfl rfl rfl rfl) ?_; rotate_left)
          | ((first | refine' Line.cons rfl (.run rfl rfl ?_) ?_ | refine' Line.cons rfl (.yes rfl rfl rfl rfl ?_) ?_)
             any_goals (first | exact cMove rfl rfl | exact cAssign rfl rfl | exact cBoxTab rfl rfl | exact cPickT rfl rfl rfl | exact cPickF rfl rfl rfl | exact cNeq rfl rfl rfl)
             rotate_left))
    intro a w1 hF hb hN
    have hBs := hB.size
    replace hB := hB.trans (hb.mono hB.size)
    dsimp only [ext, Option.getD] at hF
    repeat with_reducible first | refine wp_seq ?_ | refine nThen ?_ | refine wp_ret ?_
    have hs1 := (Ty.cls 69 L).below hs hB
    refine' reg_all hF ?_ mixed (by kernel_rfl) ?_
    rotate_left
    · repeat (first
          | exact Line.nil
          | (refine' Line.cons rfl (.no rfl rfl rfl rfl rfl rfl) ?_; rotate_left)
          | ((first | refine' Line.cons rfl (.run rfl rfl ?_) ?_ | refine' Line.cons rfl (.yes rfl rfl rfl rfl ?_) ?_)
             any_goals (first | exact cMove rfl rfl | exact cAssign rfl rfl | exact cFldL46 rfl (.t rfl) | exact cRowOf46 rfl (.t rfl) | exact cLenH rfl (.l rfl hs1) (Ty.sl_isSl _ _ _) Tryz.underlying38 | exact OpOk.b (c := true) (cNeq rfl rfl rfl) (by simp; omega) | exact cPickT rfl rfl rfl | exact cPickF rfl rfl rfl | exact cNeq rfl rfl rfl)
             rotate_left))
    intro a w2 hF hb hN
    have hBs := hB.size
    replace hB := hB.trans (hb.mono hB.size)
    dsimp only [ext, Option.getD] at hF
    repeat with_reducible first | refine wp_seq ?_ | refine nThen ?_ | refine wp_ret ?_
    refine ret1 hF rfl rfl fun z hz => ?_
    exact ⟨z, rfl, hz, hB⟩
/-- A place, or -1. -/
def Ty.idx (b : Bool) : Ty := ⟨fun _ v => ∃ r : Int, v = .int .i64 r ∧ decide (0 ≤ r) = b, fun _ => false, fun h _ _ => h⟩
theorem cGeqIdx {P : Program} {w0 : World} {Γ : Ctx} {o : Oper} {t t2 : TypeId} {x : Operand} {b : Bool} (ho : o.op = .binOp .geq t x (.const (.int .i64 0)) t2) (hx : OpT Γ x (Ty.idx b)) : OpOk P w0 Γ o (Ty.ex (.bool b)) :=
  .val fun a w _ hs => by
    obtain ⟨v, h1, r, h2, h3⟩ := hs x _ (by simp [ho, Op.operands]) hx
    have hc : a.eval (.const (.int .i64 0)) = .int .i64 0 := rfl
    refine ⟨_, rfl, ?_⟩
    unfold execOp
    simp only [ho, h1, h2, hc]
    rw [← h3]
    simp [eqGuard, binOp, Op.intCmp]
set_option maxRecDepth 100000 in
theorem idxT_any (sd : Nat) (Ls : List (List Cl)) (s p : Value) (w : World) (v : Value) (hv : (Ty.tabs 40 69 sd Ls).p w v) (hL : Ls.length ≤ 1000000) (hp : (Ty.at_ StT [.int .u64 (sd : Int), s]).p w p) : Ret Tryz.prog 138 #[v, oddFn p] w (Ty.idx (!allG Ls)) := by
  have he : Enters Tryz.prog 109 := fun args w => by kernel_rfl
  let TL := Ty.tabs 40 69 sd Ls
  let TP := Ty.at_ StT [.int .u64 (sd : Int), s]
  refine enter_ty 19 [Ty.ex v, Ty.ex (oddFn p)] Tryz.func138 rfl (by kernel_rfl) ⟨rfl, rfl, trivial⟩ fun a hF => ?_
  have hB := Below.refl w.heap.size w
  repeat with_reducible first | refine wp_seq ?_ | refine nThen ?_ | refine nBlk ?_ | refine wp_skip ?_ | refine wp_block ?_ | refine wp_exit ?_ | refine xThen ?_ | refine xHere ?_ | refine wp_ret ?_ | refine rThen ?_ | refine rBlk ?_
  refine' reg_all hF ?_ mixed (by kernel_rfl) ?_
  rotate_left
  · repeat (first
        | exact Line.nil
        | ((refine' Line.cons rfl (.run rfl rfl ?_) ?_)
           any_goals (first | exact cMove rfl rfl | exact cAssign rfl rfl | exact cLss rfl rfl rfl)
           rotate_left))
  intro a w1 hF hb hN
  have hBs := hB.size
  replace hB := hB.trans (hb.mono hB.size)
  dsimp only [ext, Option.getD] at hF
  repeat with_reducible first | refine wp_seq ?_ | refine nThen ?_ | refine nBlk ?_ | refine wp_skip ?_ | refine wp_block ?_ | refine wp_exit ?_ | refine xThen ?_ | refine xHere ?_ | refine wp_ret ?_ | refine rThen ?_ | refine rBlk ?_
  refine' reg_all hF ?_ mixed (by kernel_rfl) ?_
  rotate_left
  · repeat (first
        | exact Line.nil
        | ((refine' Line.cons rfl (.run rfl rfl ?_) ?_)
           any_goals (first | exact cMove rfl rfl | exact cAssign rfl rfl | exact cLenTA rfl (.l rfl (TL.below hv hB)) | exact cLss rfl rfl rfl)
           rotate_left))
  intro a w2 hF hb hN
  have hBs := hB.size
  replace hB := hB.trans (hb.mono hB.size)
  dsimp only [ext, Option.getD] at hF
  repeat with_reducible first | refine wp_seq ?_ | refine nThen ?_ | refine nBlk ?_ | refine wp_skip ?_ | refine wp_block ?_ | refine wp_exit ?_ | refine xThen ?_ | refine xHere ?_ | refine wp_ret ?_ | refine rThen ?_ | refine rBlk ?_
  refine loop_ty (fun m a wr => ∃ k : Nat, k + m = Ls.length ∧ Fr 19 [(0, Ty.ex v), (1, Ty.ex (oddFn p)), (7, Ty.ex (.int .i64 (Ls.length : Int))), (8, Ty.ex (.int .i64 (k : Int)))] a wr ∧ Below w.heap.size w wr ∧ ∀ j, j < k → (Ls.getD j []).length = 24) Ls.length ?_ ?_
  · exact ⟨0, by omega, hF.keep [0, 1, 7, 8], hB, fun j hj => by omega⟩
  clear hF hB
  rintro m a wr ⟨k, hk, hF, hB, hlo⟩
  repeat with_reducible first | refine wp_seq ?_ | refine nThen ?_ | refine nBlk ?_ | refine wp_skip ?_ | refine wp_block ?_ | refine wp_exit ?_ | refine xThen ?_ | refine xHere ?_ | refine wp_ret ?_ | refine rThen ?_ | refine rBlk ?_
  refine' reg_all hF ?_ mixed (by kernel_rfl) ?_
  rotate_left
  · repeat (first
        | exact Line.nil
        | ((refine' Line.cons rfl (.run rfl rfl ?_) ?_)
           any_goals (first | exact cMove rfl rfl | exact cAssign rfl rfl | exact cLss rfl rfl rfl)
           rotate_left))
  intro a w3 hF hb hN
  have hBs := hB.size
  replace hB := hB.trans (hb.mono hB.size)
  dsimp only [ext, Option.getD] at hF
  repeat with_reducible first | refine wp_seq ?_ | refine nThen ?_ | refine nBlk ?_ | refine wp_skip ?_ | refine wp_block ?_ | refine wp_exit ?_ | refine xThen ?_ | refine xHere ?_ | refine wp_ret ?_ | refine rThen ?_ | refine rBlk ?_
  refine cond_ty hF rfl (fun hlt => ?_) (fun hge => ?_)
  · have hlt : k < Ls.length := by have := of_decide_eq_true hlt; omega
    repeat with_reducible first | refine wp_seq ?_ | refine nThen ?_ | refine nBlk ?_ | refine wp_skip ?_ | refine wp_block ?_ | refine wp_exit ?_ | refine xThen ?_ | refine xHere ?_ | refine wp_ret ?_ | refine rThen ?_ | refine rBlk ?_
    refine' reg_all hF ?_ mixed (by kernel_rfl) ?_
    rotate_left
    · repeat (first
          | exact Line.nil
          | ((refine' Line.cons rfl (.run rfl rfl ?_) ?_)
             any_goals (first | exact cMove rfl rfl | exact cAssign rfl rfl | exact cLss rfl rfl rfl)
             rotate_left))
    intro a w4 hF hb hN
    have hBs := hB.size
    replace hB := hB.trans (hb.mono hB.size)
    dsimp only [ext, Option.getD] at hF
    repeat with_reducible first | refine wp_seq ?_ | refine nThen ?_ | refine nBlk ?_ | refine wp_skip ?_ | refine wp_block ?_ | refine wp_exit ?_ | refine xThen ?_ | refine xHere ?_ | refine wp_ret ?_ | refine rThen ?_ | refine rBlk ?_
    have hv4 := TL.below hv hB
    have hp4 := TP.below hp hB
    refine' reg_all hF ?_ mixed (by kernel_rfl) ?_
    rotate_left
    · repeat (first
          | exact Line.nil
          | ((refine' Line.cons rfl (.run rfl rfl ?_) ?_)
             any_goals (first | exact cMove rfl rfl | exact cAssign rfl rfl | exact cIdxTA (k := k) rfl (.l rfl hv4) rfl hlt | exact cLoadTab46 rfl (.t rfl) | exact cCallCT rfl rfl (.t rfl) he (fun W u hb hu => odd_ret sd (Ls.getD k []) s p W u hu (TP.below hp4 hb)) | exact cLss rfl rfl rfl)
             rotate_left))
    intro a w5 hF hb hN
    have hBs := hB.size
    replace hB := hB.trans (hb.mono hB.size)
    dsimp only [ext, Option.getD] at hF
    repeat with_reducible first | refine wp_seq ?_ | refine nThen ?_ | refine nBlk ?_ | refine wp_skip ?_ | refine wp_block ?_ | refine wp_exit ?_ | refine xThen ?_ | refine xHere ?_ | refine wp_ret ?_ | refine rThen ?_ | refine rBlk ?_
    refine cond_ty hF rfl (fun hc => ?_) (fun hc => ?_)
    · repeat with_reducible first | refine wp_seq ?_ | refine nThen ?_ | refine nBlk ?_ | refine wp_skip ?_ | refine wp_block ?_ | refine wp_exit ?_ | refine xThen ?_ | refine xHere ?_ | refine wp_ret ?_ | refine rThen ?_ | refine rBlk ?_
      refine' reg_all hF ?_ mixed (by kernel_rfl) ?_
      rotate_left
      · repeat (first
            | exact Line.nil
            | ((refine' Line.cons rfl (.run rfl rfl ?_) ?_)
               any_goals (first | exact cMove rfl rfl | exact cAssign rfl rfl | exact cLss rfl rfl rfl)
               rotate_left))
      intro a w6 hF hb hN
      have hBs := hB.size
      replace hB := hB.trans (hb.mono hB.size)
      dsimp only [ext, Option.getD] at hF
      repeat with_reducible first | refine wp_seq ?_ | refine nThen ?_ | refine nBlk ?_ | refine wp_skip ?_ | refine wp_block ?_ | refine wp_exit ?_ | refine xThen ?_ | refine xHere ?_ | refine wp_ret ?_ | refine rThen ?_ | refine rBlk ?_
      refine ret1 hF rfl rfl fun z hz => ?_
      refine ⟨z, rfl, ⟨(k : Int), hz, ?_⟩, hB⟩
      rw [allG_bad hlt (by simpa using hc)]
      exact decide_eq_true (by omega)
    · repeat with_reducible first | refine wp_seq ?_ | refine nThen ?_ | refine nBlk ?_ | refine wp_skip ?_ | refine wp_block ?_ | refine wp_exit ?_ | refine xThen ?_ | refine xHere ?_ | refine wp_ret ?_ | refine rThen ?_ | refine rBlk ?_
      refine' reg_all hF ?_ mixed (by kernel_rfl) ?_
      rotate_left
      · repeat (first
            | exact Line.nil
            | ((refine' Line.cons rfl (.run rfl rfl ?_) ?_)
               any_goals (first | exact cMove rfl rfl | exact cAssign rfl rfl | exact cAdd (r := ((k + 1 : Nat) : Int)) rfl rfl rfl (by omega) | exact cLss rfl rfl rfl)
               rotate_left))
      intro a w6 hF hb hN
      have hBs := hB.size
      replace hB := hB.trans (hb.mono hB.size)
      dsimp only [ext, Option.getD] at hF
      repeat with_reducible first | refine wp_seq ?_ | refine nThen ?_ | refine nBlk ?_ | refine wp_skip ?_ | refine wp_block ?_ | refine wp_exit ?_ | refine xThen ?_ | refine xHere ?_ | refine wp_ret ?_ | refine rThen ?_ | refine rBlk ?_
      refine ⟨m - 1, by omega, k + 1, by omega, hF.keep [0, 1, 7, 8], hB, fun j hj => ?_⟩
      by_cases hjk : j = k
      · subst hjk; simpa using hc
      · exact hlo j (by omega)
  · have hge : ¬ k < Ls.length := by have := of_decide_eq_false hge; omega
    repeat with_reducible first | refine wp_seq ?_ | refine nThen ?_ | refine nBlk ?_ | refine wp_skip ?_ | refine wp_block ?_ | refine wp_exit ?_ | refine xThen ?_ | refine xHere ?_ | refine wp_ret ?_ | refine rThen ?_ | refine rBlk ?_
    refine' reg_all hF ?_ mixed (by kernel_rfl) ?_
    rotate_left
    · repeat (first
          | exact Line.nil
          | ((refine' Line.cons rfl (.run rfl rfl ?_) ?_)
             any_goals (first | exact cMove rfl rfl | exact cAssign rfl rfl | exact cLss rfl rfl rfl)
             rotate_left))
    intro a w4 hF hb hN
    have hBs := hB.size
    replace hB := hB.trans (hb.mono hB.size)
    dsimp only [ext, Option.getD] at hF
    repeat with_reducible first | refine wp_seq ?_ | refine nThen ?_ | refine nBlk ?_ | refine wp_skip ?_ | refine wp_block ?_ | refine wp_exit ?_ | refine xThen ?_ | refine xHere ?_ | refine wp_ret ?_ | refine rThen ?_ | refine rBlk ?_
    refine ret1 hF rfl rfl fun z hz => ?_
    refine ⟨z, rfl, ⟨-1, hz, ?_⟩, hB⟩
    rw [allG_all fun j hj => hlo j (by omega)]
    rfl
set_option maxRecDepth 100000 in
theorem contT_any (sd : Nat) (Ls : List (List Cl)) (s p : Value) (w : World) (v : Value) (hv : (Ty.tabs 40 69 sd Ls).p w v) (hL : Ls.length ≤ 1000000) (hp : (Ty.at_ StT [.int .u64 (sd : Int), s]).p w p) : Ret Tryz.prog 110 #[v, oddFn p] w (Ty.ex (.bool (!allG Ls))) := by
  have he : Enters Tryz.prog 138 := fun args w => by kernel_rfl
  let TL := Ty.tabs 40 69 sd Ls
  let TP := Ty.at_ StT [.int .u64 (sd : Int), s]
  refine enter_ty 9 [Ty.ex v, Ty.ex (oddFn p)] Tryz.func110 rfl (by kernel_rfl) ⟨rfl, rfl, trivial⟩ fun a hF => ?_
  have hB := Below.refl w.heap.size w
  repeat with_reducible first | refine wp_seq ?_ | refine nThen ?_ | refine wp_ret ?_
  refine' reg_all hF ?_ mixed (by kernel_rfl) ?_
  rotate_left
  · repeat (first
        | exact Line.nil
        | ((refine' Line.cons rfl (.run rfl rfl ?_) ?_)
           any_goals (first | exact cMove rfl rfl | exact cAssign rfl rfl)
           rotate_left))
  intro a w1 hF hb hN
  have hBs := hB.size
  replace hB := hB.trans (hb.mono hB.size)
  dsimp only [ext, Option.getD] at hF
  repeat with_reducible first | refine wp_seq ?_ | refine nThen ?_ | refine wp_ret ?_
  have hv1 := TL.below hv hB
  have hp1 := TP.below hp hB
  refine' reg_all hF ?_ mixed (by kernel_rfl) ?_
  rotate_left
  · repeat (first
        | exact Line.nil
        | ((refine' Line.cons rfl (.run rfl rfl ?_) ?_)
           any_goals (first | exact cMove rfl rfl | exact cAssign rfl rfl | exact cCallX2 rfl rfl rfl he (fun W hb => idxT_any sd Ls s p W v (TL.below hv1 hb) hL (TP.below hp1 hb)) | exact cGeqIdx rfl rfl)
           rotate_left))
  intro a w2 hF hb hN
  have hBs := hB.size
  replace hB := hB.trans (hb.mono hB.size)
  dsimp only [ext, Option.getD] at hF
  repeat with_reducible first | refine wp_seq ?_ | refine nThen ?_ | refine wp_ret ?_
  refine ret1 hF rfl rfl fun z hz => ?_
  exact ⟨z, rfl, hz, hB⟩
set_option maxRecDepth 100000 in
/-- strata.Good -/
theorem sgood_ty (sd : Nat) (Ls : List (List Cl)) (hL : Ls.length ≤ 1000000) : Fn1 Tryz.prog 74 (Ty.stra 40 69 sd Ls) (Ty.ex (.bool (goodSt Ls))) := by
  refine ⟨fun args w => by kernel_rfl, fun w v ⟨s, hv, hs⟩ => ?_⟩
  subst hv
  have he : Enters Tryz.prog 110 := fun args w => by kernel_rfl
  let TL := Ty.tabs 40 69 sd Ls
  let TP := Ty.at_ StT [.int .u64 (sd : Int), s]
  rw [goodSt_is]
  refine enter_ty 16 [Ty.ex (.agg #[.int .u64 (sd : Int), s])] Tryz.func74 rfl (by kernel_rfl) ⟨rfl, trivial⟩ fun a hF => ?_
  have hB := Below.refl w.heap.size w
  repeat with_reducible first | refine wp_seq ?_ | refine nThen ?_ | refine wp_ret ?_
  refine' reg_all hF ?_ mixed (by kernel_rfl) ?_
  rotate_left
  · repeat (first
        | exact Line.nil
        | (refine' Line.cons rfl (.no rfl rfl rfl rfl rfl rfl) ?_; rotate_left)
        | ((first | refine' Line.cons rfl (.run rfl rfl ?_) ?_ | refine' Line.cons rfl (.yes rfl rfl rfl rfl ?_) ?_)
           any_goals (first | exact cMove rfl rfl | exact cAssign rfl rfl | exact cNot rfl rfl | exact cBoxTab rfl rfl | exact cPickT rfl rfl rfl | exact cPickF rfl rfl rfl | exact cEql rfl rfl rfl)
           rotate_left))
  intro a w1 hF hb hN
  have hBs := hB.size
  replace hB := hB.trans (hb.mono hB.size)
  dsimp only [ext, Option.getD] at hF
  repeat with_reducible first | refine wp_seq ?_ | refine nThen ?_ | refine wp_ret ?_
  obtain ⟨p, hp, hF⟩ := hF.open (s := 1) rfl
  have hp : TP.p w1 p := hp
  refine' reg_all hF ?_ mixed (by kernel_rfl) ?_
  rotate_left
  · repeat (first
        | exact Line.nil
        | (refine' Line.cons rfl (.no rfl rfl rfl rfl rfl rfl) ?_; rotate_left)
        | ((first | refine' Line.cons rfl (.run rfl rfl ?_) ?_ | refine' Line.cons rfl (.yes rfl rfl rfl rfl ?_) ?_)
           any_goals (first | exact cMove rfl rfl | exact cAssign rfl rfl | exact cNot rfl rfl | exact cMakeFunc rfl rfl | exact cPickT rfl rfl rfl | exact cPickF rfl rfl rfl | exact cEql rfl rfl rfl)
           rotate_left))
  intro a w2 hF hb hN
  have hBs := hB.size
  replace hB := hB.trans (hb.mono hB.size)
  dsimp only [ext, Option.getD] at hF
  repeat with_reducible first | refine wp_seq ?_ | refine nThen ?_ | refine wp_ret ?_
  replace hp := TP.below hp hb
  have hs2 := TL.below hs hB
  by_cases hl : Ls.length = 10
  · rw [decide_eq_true hl, Bool.true_and]
    refine' reg_all hF ?_ mixed (by kernel_rfl) ?_
    rotate_left
    · repeat (first
          | exact Line.nil
          | (refine' Line.cons rfl (.no rfl rfl rfl rfl rfl rfl) ?_; rotate_left)
          | ((first | refine' Line.cons rfl (.run rfl rfl ?_) ?_ | refine' Line.cons rfl (.yes rfl rfl rfl rfl ?_) ?_)
             any_goals (first | exact cMove rfl rfl | exact cAssign rfl rfl | exact cNot rfl rfl | exact cSt1 rfl (.l rfl hp) | exact cLoad1 (u := s) rfl (.t rfl) (pts_at _ _) Tryz.underlying43 rfl | exact cLenTA rfl (.l rfl hs2) | exact OpOk.b (c := true) (cEql rfl rfl rfl) (decide_eq_true (by omega)) | exact cCallX2 rfl rfl rfl he (fun W hb => contT_any sd Ls s p W s (TL.below hs2 hb) hL (TP.below hp hb)) | exact cPickT rfl rfl rfl | exact cPickF rfl rfl rfl | exact cEql rfl rfl rfl)
             rotate_left))
    intro a w3 hF hb hN
    have hBs := hB.size
    replace hB := hB.trans (hb.mono hB.size)
    dsimp only [ext, Option.getD] at hF
    repeat with_reducible first | refine wp_seq ?_ | refine nThen ?_ | refine wp_ret ?_
    refine ret1 hF rfl rfl fun z hz => ?_
    exact ⟨z, rfl, by rw [show z = .bool (!!allG Ls) from hz, Bool.not_not]; rfl, hB⟩
  · rw [decide_eq_false hl, Bool.false_and]
    refine' reg_all hF ?_ mixed (by kernel_rfl) ?_
    rotate_left
    · repeat (first
          | exact Line.nil
          | (refine' Line.cons rfl (.no rfl rfl rfl rfl rfl rfl) ?_; rotate_left)
          | ((first | refine' Line.cons rfl (.run rfl rfl ?_) ?_ | refine' Line.cons rfl (.yes rfl rfl rfl rfl ?_) ?_)
             any_goals (first | exact cMove rfl rfl | exact cAssign rfl rfl | exact cNot rfl rfl | exact cSt1 rfl (.l rfl hp) | exact cLoad1 (u := s) rfl (.t rfl) (pts_at _ _) Tryz.underlying43 rfl | exact cLenTA rfl (.l rfl hs2) | exact OpOk.b (c := false) (cEql rfl rfl rfl) (decide_eq_false (by omega)) | exact cPickT rfl rfl rfl | exact cPickF rfl rfl rfl | exact cEql rfl rfl rfl)
             rotate_left))
    intro a w3 hF hb hN
    have hBs := hB.size
    replace hB := hB.trans (hb.mono hB.size)
    dsimp only [ext, Option.getD] at hF
    repeat with_reducible first | refine wp_seq ?_ | refine nThen ?_ | refine wp_ret ?_
    refine ret1 hF rfl rfl fun z hz => ?_
    exact ⟨z, rfl, hz, hB⟩
end Go.Proofs.YtmefpnklgfhggaaGreatDoor

/- Regions by types: a drawn region's store, for which an extract ahead of it in the text need not wait. -/
namespace Go.Proofs.YtmefpnklgfhggaaGreatDoor
open Go.RowKit

theorem extract_wp {P : Program} {o : Oper} {x : Operand} {m : Nat} (ho : o.op = .extract x m) {a : Act} {w : World} {K : Act → World → Prop} {Q : Exit → Act → World → Prop} (h : o.wp P a w K Q) :
    ∃ v, K (a.put o.dst v) w ∧ ∀ (a' : Act) (w' : World) (K' : Act → World → Prop) (Q' : Exit → Act → World → Prop), a'.eval x = a.eval x → K' (a'.put o.dst v) w' → o.wp P a' w' K' Q' := by
  unfold Oper.wp execOp at h ⊢
  simp only [ho] at h ⊢
  cases hv : a.eval x with
  | tuple vs =>
    rw [hv] at h
    cases hi : vs[m]? with
    | some v =>
      simp only [Instr.extract, hi, Sem.run_bind, Sem.run_pure, Result.andThen_ok] at h
      refine ⟨v, h, fun a' w' K' Q' he hk => ?_⟩
      rw [he]
      simp only [Instr.extract, hi, Sem.run_bind, Sem.run_pure, Result.andThen_ok]
      exact hk
    | none =>
      simp only [Instr.extract, hi] at h
      exact h.elim
  | _ =>
    rw [hv] at h
    exact h.elim
/-- All of the first n but the q-th stand ahead of the n-th; all stand ahead of each later one. -/
def swapB (ops : Array Oper) (n q : Nat) : Bool := decide (q < n) && decide (n < ops.size) && ((List.range n).all fun i => i == q || Region.waitsFor .any ops n i) && ((List.range ops.size).all fun j => decide (j ≤ n) || (List.range j).all fun i => Region.waitsFor .any ops j i)
theorem swapB_at {ops : Array Oper} {n q : Nat} (h : swapB ops n q = true) : q < n ∧ n < ops.size ∧ (∀ i, i < n → i ≠ q → Region.waitsFor .any ops n i = true) ∧ ∀ j i, n < j → j < ops.size → i < j → Region.waitsFor .any ops j i = true := by
  unfold swapB at h
  simp only [Bool.and_eq_true, decide_eq_true_eq, List.all_eq_true, List.mem_range, Bool.or_eq_true, beq_iff_eq] at h
  obtain ⟨⟨⟨h1, h2⟩, h3⟩, h4⟩ := h
  refine ⟨h1, h2, fun i hi hne => (h3 i hi).resolve_left hne, fun j i hj hjs hij => ?_⟩
  rcases h4 j hjs with h | h
  · omega
  · exact h i hij
section
variable {P : Program} {w0 : World} {Γ : Ctx} {N : Nat} {Vs : List Ty} {a0 : Act}
theorem region_st {id : Nat} {Q : Exit → Act → World → Prop} {l : List Oper} {draw : Bool} (n q : Nat) {op oq : Oper} {dq m : Nat} {x sp sy : Operand} (hm : P.follows .mixedOrders = true) (hB : (regB l.toArray N n && swapB l.toArray n q) = true) (hsq : Region.seqB .any l.toArray (l.toArray.size - n) n (List.replicate n true ++ List.replicate (l.toArray.size - n) false).toArray = true) (hF : Fr N Γ a0 w0)
    (hop : l[n]? = some op) (hgp : op.guard = none) (hoq : l[q]? = some oq) (hgq : oq.guard = none) (hdq : oq.dst = some dq) (hox : oq.op = .extract x m)
    (hne : ∀ (a : Act) (v : Value), (a.put (some dq) v).eval sp = a.eval sp ∧ (a.put (some dq) v).eval sy = a.eval sy)
    (hL : Line P l.toArray w0 Γ (l.take n) Vs)
    (hQ : ∀ a w, Fr N (ext Γ (l.take n) Vs) a w → Below w0.heap.size w0 w → News (l.take n) a → ∃ w', (∀ (a' : Act), a'.eval sp = a.eval sp → a'.eval sy = a.eval sy → ∀ (K : Act → World → Prop) (Q' : Exit → Act → World → Prop), K a' w' → op.wp P a' w K Q') ∧ wpList P l.toArray Q (l.drop (n + 1)) a w') : (Code.region id l.toArray draw).wp P Q a0 w0 := by
  rw [Bool.and_eq_true] at hB
  obtain ⟨hB, hSw⟩ := hB
  obtain ⟨hqn, hns, hw1, hw2⟩ := swapB_at hSw
  have hsize : l.toArray.size = l.length := by simp
  have hnl : n ≤ l.toArray.size := by omega
  have hlen : n = (l.take n).length := by simp at hnl ⊢; omega
  have hli : ∀ i, i < n → (l.take n)[i]? = l.toArray[i]? := fun i hi => by simp [hi]
  have hback : ∀ i o, i < n → l.toArray[i]? = some o → ∀ e ∈ o.after, Region.binds .any e = true → e.on < i := fun i o hi ho e he hb => by
    obtain ⟨o', d, ho', _, _, h, _⟩ := regB_at hB hi
    obtain rfl : o = o' := Option.some.inj (ho.symm.trans ho')
    exact h e he hb
  have hdropn : l.drop n = op :: l.drop (n + 1) := by
    have h1 : n < l.length := by omega
    rw [List.drop_eq_getElem_cons h1]
    congr 1
    exact Option.some.inj ((List.getElem?_eq_getElem h1).symm.trans hop)
  have fin0 : ∀ (listed : Array Bool) a w, TInv N n (l.take n) Vs a0 w0 listed a w → (∀ i, i < n → listed.getD i false = true) → ∃ w', (∀ (a' : Act), a'.eval sp = a.eval sp → a'.eval sy = a.eval sy → ∀ (K : Act → World → Prop) (Q' : Exit → Act → World → Prop), K a' w' → op.wp P a' w K Q') ∧ wpList P l.toArray Q (l.drop (n + 1)) a w' := fun listed a w hI hall => by
    obtain ⟨h1, h2⟩ := hI.all hL hlen hF hall
    exact hQ a w h1 hI.below h2
  have fin : ∀ (listed : Array Bool) a w, TInv N n (l.take n) Vs a0 w0 listed a w → (∀ i, i < n → listed.getD i false = true) → wpList P l.toArray Q (l.drop n) a w := fun listed a w hI hall => by
    obtain ⟨w', h1, h2⟩ := fin0 listed a w hI hall
    rw [hdropn]
    refine wpList_plain hgp fun K hK => ?_
    exact h1 a rfl rfl K Q (hK _ _ h2)
  cases draw with
  | true =>
    have key : ∀ (f : Nat) (listed : Array Bool) (a : Act) (w : World), HeadInv .any l.toArray n listed → wanting n listed = f → TInv N n (l.take n) Vs a0 w0 listed a w → wpAny P .any l.toArray Q (f + (l.toArray.size - n)) listed a w := by
      intro f
      induction f with
      | zero =>
        intro listed a w hH h0 hI
        have hall := wanting_zero h0
        have hdl : (l.drop n).length = l.toArray.size - n := by simp
        have e := all_listed hH hall hnl
        have hseq : Region.seqB .any l.toArray (l.toArray.size - n) n listed = true := by rw [e]; exact hsq
        have := wpAny_of_seq (md := .any) (Q' := Q) (l.drop n) n listed a w (fun j => by simp [List.getElem?_drop]) (by rw [hdl]; exact hseq) (fin listed a w hI hall)
        rw [Nat.zero_add]
        rwa [hdl] at this
      | succ f ih =>
        intro listed a w hH h0 hI
        rw [show f + 1 + (l.toArray.size - n) = (f + (l.toArray.size - n)) + 1 by omega]
        have hex : ∃ i, i < n ∧ listed.getD i true = false := by
          refine Classical.byContradiction fun hno => ?_
          have hz : wanting n listed = 0 := by
            unfold wanting
            rw [List.length_eq_zero_iff, List.filter_eq_nil_iff]
            intro i hi
            have hi' := List.mem_range.1 hi
            have hl : i < listed.size := by rw [hH.size]; omega
            have h1 : ¬ listed.getD i true = false := fun h => hno ⟨i, hi', h⟩
            simp [Array.getD, hl] at h1 ⊢
            exact h1
          omega
        obtain ⟨i0, hi0, hun0⟩ := hex
        refine ⟨fun hr => ?_, fun i hi => ?_⟩
        · exfalso
          have := ready_head hback hnl hH.size hr i0 hi0
          rw [getD_both hun0] at this
          cases this
        · obtain ⟨h1, o, ho, h2⟩ := mem_ready.1 hi
          by_cases hin : i < n
          rotate_left
          · have hio := (Array.getElem?_eq_some_iff.1 ho).1
            have hui : listed.getD i false = false := getD_both h1
            have dep : ∀ k, Region.waitsFor .any l.toArray i k = true → listed.getD k false = true := fun k hk => by
              obtain ⟨oj, hoj, e, he, hb, hon⟩ := Region.waitsFor_spec hk
              obtain rfl : o = oj := Option.some.inj (ho.symm.trans hoj)
              have := h2 e he hb
              rwa [hon] at this
            have hien : i = n := by
              refine Classical.byContradiction fun hne' => ?_
              have := dep i0 (hw2 i i0 (by omega) hio (by omega))
              rw [getD_both hun0] at this
              cases this
            subst hien
            have hallq : ∀ k, k < i → k ≠ q → listed.getD k false = true := fun k hk hkq => dep k (hw1 k hk hkq)
            have hi0q : i0 = q := Classical.byContradiction fun h => by
              have := hallq i0 hi0 h
              rw [getD_both hun0] at this
              cases this
            subst hi0q
            have hoi : op = o := Option.some.inj ((by simpa using hop : l.toArray[i]? = some op).symm.trans ho)
            subst hoi
            have hoqa : l.toArray[i0]? = some oq := by simpa using hoq
            have hqdep : ∀ e ∈ oq.after, Region.binds .any e = true → listed.getD e.on false = true := fun e he hb => by
              have h5 := hback i0 oq hi0 hoqa e he hb
              exact hallq _ (by omega) (by omega)
            have hil0 : i0 < listed.size := by rw [hH.size]; omega
            have h3 := TInv.step hB hli hL hF hI hH.size hH.closed hi0 hoqa (getD_both hun0) hqdep (fun a' w' => TInv N i (l.take i) Vs a0 w0 (listed.setIfInBounds i0 true) a' w') Q (fun a' w' hI' => hI')
            rw [if_pos (by simp [Region.wanted, hgq])] at h3
            obtain ⟨v, h4, h5⟩ := extract_wp hox h3
            rw [hdq] at h4
            have hallS : ∀ k, k < i → (listed.setIfInBounds i0 true).getD k false = true := fun k hk => by
              by_cases hkq : i0 = k
              · subst hkq; simp [Array.getD, hil0]
              · rw [getD_set_ne false hkq]; exact hallq k hk (fun e => hkq e.symm)
            obtain ⟨w', h6, h7⟩ := fin0 _ _ _ h4 hallS
            unfold wpOp
            simp only [ho]
            rw [if_pos (by simp [Region.wanted, hgp])]
            refine .inl (h6 a (hne a v).1.symm (hne a v).2.symm _ _ ?_)
            have hsz : f + (l.toArray.size - i) = (l.toArray.size - i - 1) + 1 := by
              have hf0 : f = 0 := by
                have h9 := wanting_set hi0 hil0 (getD_both hun0)
                have hz : wanting i (listed.setIfInBounds i0 true) = 0 := by
                  unfold wanting
                  rw [List.length_eq_zero_iff, List.filter_eq_nil_iff]
                  intro k hk
                  have h8 := hallS k (List.mem_range.1 hk)
                  intro h10
                  simp only [Bool.not_eq_true'] at h10
                  rw [h10] at h8
                  cases h8
                omega
              omega
            rw [hsz]
            have hready : i0 ∈ Region.ready .any l.toArray (listed.setIfInBounds i true) := mem_ready.2 ⟨by rw [getD_set_ne true (by omega)]; exact hun0, oq, hoqa, fun e he hb => by
              have h8 := hback i0 oq hi0 hoqa e he hb
              rw [getD_set_ne false (by omega)]
              exact hqdep e he hb⟩
            refine ⟨fun hr => (by rw [hr] at hready; cases hready), fun j hj => ?_⟩
            obtain ⟨g1, oj, hoj, g2⟩ := mem_ready.1 hj
            have hjlt := (Array.getElem?_eq_some_iff.1 hoj).1
            have hjq : j = i0 := Classical.byContradiction fun hjn => by
              by_cases hji : j = i
              · subst hji
                rw [show (listed.setIfInBounds j true).getD j true = true by simp [Array.getD]] at g1
                cases g1
              · rw [getD_set_ne true (fun e => hji e.symm)] at g1
                by_cases hjl : j < i
                · have := hallq j hjl hjn
                  rw [getD_both g1] at this
                  cases this
                · have hk := hw2 j i0 (by omega) hjlt (by omega)
                  obtain ⟨oj', hoj', e, he, hb, hon⟩ := Region.waitsFor_spec hk
                  obtain rfl : oj = oj' := Option.some.inj (hoj.symm.trans hoj')
                  have := g2 e he hb
                  rw [hon, getD_set_ne false (by omega), getD_both hun0] at this
                  cases this
            subst hjq
            unfold wpOp
            simp only [hoqa]
            rw [if_pos (by simp [Region.wanted, hgq])]
            refine .inl (h5 a w' _ _ rfl ?_)
            rw [hdq]
            have e := all_listed (hH.set (mem_ready.2 ⟨hun0, oq, hoqa, hqdep⟩) hi0) hallS hnl
            have hsz3 : l.toArray.size - i = (l.toArray.size - i - 1) + 1 := by omega
            have hsq2 := hsq
            rw [hsz3] at hsq2
            simp only [Region.seqB, Bool.and_eq_true] at hsq2
            have hdl : (l.drop (i + 1)).length = l.toArray.size - i - 1 := by simp; omega
            have h10 := wpAny_of_seq (md := .any) (Q' := Q) (l.drop (i + 1)) (i + 1) ((listed.setIfInBounds i true).setIfInBounds j true) (a.put (some dq) v) w' (fun k => by simp [List.getElem?_drop]) (by
              rw [hdl, Array.setIfInBounds_comm _ _ (by omega), e, hsz3]
              exact hsq2.2) h7
            rwa [hdl] at h10
          have hil : i < listed.size := by rw [hH.size]; omega
          have h3 := TInv.step hB hli hL hF hI hH.size hH.closed hin ho (getD_both h1) h2 (wpAny P .any l.toArray Q (f + (l.toArray.size - n)) (listed.setIfInBounds i true)) Q (fun a' w' hI' => by
            refine ih _ a' w' (hH.set hi hin) ?_ hI'
            have := wanting_set hin hil (getD_both h1)
            omega)
          unfold wpOp
          simp only [ho]
          split
          · rename_i hw
            rw [if_pos hw] at h3
            exact .inl h3
          · rename_i hw
            rw [if_neg hw] at h3
            exact h3
    have inv0 : HeadInv .any l.toArray n (Array.replicate l.toArray.size false) :=
      ⟨by simp, fun j oj _ hl => (by rw [getD_replicate_false] at hl; cases hl), fun t _ ht => getD_in (by simpa using ht) (getD_replicate_false _ _)⟩
    have h0 : wanting n (Array.replicate l.toArray.size false) = n := by
      unfold wanting
      rw [List.filter_eq_self.2 (fun i _ => by rw [getD_replicate_false]; rfl), List.length_range]
    refine wp_region_any hm ?_
    have := key n _ a0 w0.drew inv0 h0 (TInv.start hF (Below.refl _ _).drew _)
    rw [show n + (l.toArray.size - n) = l.toArray.size by omega] at this
    exact this
  | false =>
    have key : ∀ (f k : Nat) (a : Act) (w : World), k + f = n → TInv N n (l.take n) Vs a0 w0 ((List.replicate k true ++ List.replicate (l.toArray.size - k) false).toArray) a w → wpList P l.toArray Q (l.drop k) a w := by
      intro f
      induction f with
      | zero =>
        intro k a w hk hI
        obtain rfl : k = n := by omega
        refine fin _ a w hI (fun i hi => ?_)
        simp [Array.getD, hi]
        omega
      | succ f ih =>
        intro k a w hk hI
        have hkn : k < n := by omega
        have hkl : k < l.length := by omega
        have hdrop : l.drop k = l[k] :: l.drop (k + 1) := by rw [List.drop_eq_getElem_cons hkl]
        have getD_k : ∀ m j, m ≤ l.toArray.size → (List.replicate m true ++ List.replicate (l.toArray.size - m) false).toArray.getD j false = decide (j < m) := fun m j hm => by
          by_cases hj : j < m
          · simp [Array.getD, hj]; omega
          · simp [Array.getD, List.getElem_append, hj]
        have ho : l.toArray[k]? = some l[k] := by simp [hkl]
        have hset : (List.replicate k true ++ List.replicate (l.toArray.size - k) false).toArray.setIfInBounds k true = (List.replicate (k + 1) true ++ List.replicate (l.toArray.size - (k + 1)) false).toArray := by
          apply Array.ext_getElem?
          intro j
          rw [show l.toArray.size - k = (l.toArray.size - (k + 1)) + 1 by omega, List.replicate_succ, List.replicate_succ']
          simp only [List.setIfInBounds_toArray, List.getElem?_toArray, List.append_assoc, List.singleton_append]
          rw [List.set_append_right _ _ (by simp)]
          simp
        rw [hdrop]
        refine wpList_step fun K hK => ?_
        refine TInv.step hB hli hL hF hI (by simp; omega) (fun j oj hj hl e he hb => ?_) hkn ho (by rw [getD_k k k (by omega)]; simp) (fun e he hb => ?_) K Q (fun a' w' hI' => hK a' w' (ih (k + 1) a' w' (by omega) (by rw [← hset]; exact hI')))
        · rw [getD_k k _ (by omega)] at hl ⊢
          simp only [decide_eq_true_eq] at hl ⊢
          have := hback j oj (by omega) hj e he hb
          omega
        · rw [getD_k k _ (by omega)]
          simp only [decide_eq_true_eq]
          exact hback k _ hkn ho e he hb
    refine wp_region_lit ?_
    have := key n 0 a0 w0 (by omega) (by
      have e : (List.replicate 0 true ++ List.replicate (l.toArray.size - 0) false).toArray = Array.replicate l.toArray.size false := by simp
      rw [e]
      exact TInv.start hF (Below.refl _ _) _)
    simpa using this
/-- The store's work. -/
theorem store_ev {N : Nat} {Γ : Ctx} {a : Act} {w : World} {o : Oper} {ty t : TypeId} {p y g : Nat} {cs : Array Value} {v : Value} {Δ : Ctx} (hF : Fr N Γ a w) (hd : o.dst = none) (ho : o.op = .store ty (.tmp p) (.tmp y)) (hp : look Γ p = some (Ty.ex (.pointer (some ⟨g, 0, none⟩)))) (hy : a.eval (.tmp y) = v)
    (hB : Blk w g t cs) (hcs : v.cells.size = cs.size) (hi : (P.info? ty).map (·.size) = some v.cells.size) (h1 : v.cells.all (·.oneCell') = true) (hΔ : Fr N Δ a w) (hfree : Δ.free t = true) :
    ∃ w', (∀ (a' : Act), a'.eval (.tmp p) = a.eval (.tmp p) → a'.eval (.tmp y) = a.eval (.tmp y) → ∀ (K : Act → World → Prop) (Q' : Exit → Act → World → Prop), K a' w' → o.wp P a' w K Q') ∧ Fr N Δ a w' ∧ Blk w' g t v.cells ∧ Keeps [g] w w' := by
  have h3 : Keeps [g] w (w.setCells g 0 v.cells.toList) := Keeps.setCells (.inl (by simp)) _ _ (Keeps.refl _ _)
  refine ⟨w.setCells g 0 v.cells.toList, fun a' e1 e2 K Q' hk => ?_, ?_, ?_, h3⟩
  · unfold Oper.wp execOp
    simp only [ho, e1, e2, hF.getEx hp, hy, Instr.storeAt, Instr.sureAddr, Sem.run_bind, Sem.run_pure, Result.andThen_ok, storeVar_cells ty _ v, run_storeVar_mid w g 0 ty v.cells (hB.there (by omega)) hi h1]
    show K (a'.put o.dst _) _
    rw [hd]
    exact hk
  · refine hΔ.free h3 (fun b hb _ => ?_) hfree
    simp only [List.mem_singleton] at hb
    subst hb
    exact ⟨cs, (0, 0), hB⟩
  · have h2 := hB.setCells v.cells.toList 0
    rw [splice_all _ _ (by simpa using hcs)] at h2
    simpa using h2
theorem store_st {N : Nat} {Γ : Ctx} {a : Act} {w : World} {o : Oper} {ty t : TypeId} {p y g : Nat} {cs : Array Value} {v : Value} {Δ : Ctx} {R : World → Prop} (hF : Fr N Γ a w) (hd : o.dst = none) (ho : o.op = .store ty (.tmp p) (.tmp y)) (hp : look Γ p = some (Ty.ex (.pointer (some ⟨g, 0, none⟩)))) (hy : a.eval (.tmp y) = v)
    (hB : Blk w g t cs) (hcs : v.cells.size = cs.size) (hi : (P.info? ty).map (·.size) = some v.cells.size) (h1 : v.cells.all (·.oneCell') = true) (hΔ : Fr N Δ a w) (hfree : Δ.free t = true) (hq : ∀ w', Fr N Δ a w' → Blk w' g t v.cells → Keeps [g] w w' → R w') :
    ∃ w', (∀ (a' : Act), a'.eval (.tmp p) = a.eval (.tmp p) → a'.eval (.tmp y) = a.eval (.tmp y) → ∀ (K : Act → World → Prop) (Q' : Exit → Act → World → Prop), K a' w' → o.wp P a' w K Q') ∧ R w' := by
  obtain ⟨w', h4, h5, h6, h7⟩ := store_ev (P := P) hF hd ho hp hy hB hcs hi h1 hΔ hfree
  exact ⟨w', h4, hq w' h5 h6 h7⟩
theorem put_far {d s : Nat} (h : Nat.beq d s = false) (a : Act) (v : Value) : (a.put (some d) v).eval (.tmp s) = a.eval (.tmp s) := by
  have hne : d ≠ s := fun e => by subst e; simp at h
  simp only [Act.eval, Act.put, Array.getD_eq_getD_getElem?]
  rw [Array.getElem?_setIfInBounds_ne hne]
end
end Go.Proofs.YtmefpnklgfhggaaGreatDoor
