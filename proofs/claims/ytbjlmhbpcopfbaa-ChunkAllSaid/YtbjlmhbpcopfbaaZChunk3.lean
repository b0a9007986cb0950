/- Joined: ChunkD, CutE, CutF, CutG, CutH, CutI, CutJ, CutK, ChunkP, ChunkE, Row, Row2, RowS, RowB. -/
import Derived.Deep.OwnRows
import Derived.ProofKit
import Derived.OpenShut
import Derived.ShutString
import Derived.ChangeOld
import Derived.SizedLaws
import Derived.ChangeSlices
import Derived.Carry
import Derived.Deep.Slices
import Derived.ChangeSame
import Derived.Test.YtbjlmhbpcopfbaaZChunk2
/- Chunks by types: constants that are laid and frozen; strings; what all statements of layer 11 tell. -/
namespace Go.Proofs.Ytbjlmhbpcopfbaa
open Go.RowKit

section
variable {P : Program} {ops : Array Oper} {Q : Exit → Act → World → Prop} {rest : List Oper} {o o2 : Oper} {a : Act} {w w0 : World} {N : Nat} {Γ : Ctx}
/-- An operation whose guard, if there is one, is met. -/
def Met (ops : Array Oper) (Γ : Ctx) (o : Oper) : Prop := o.guard = none ∨ ∃ j s, o.guard = some (j, true) ∧ slotOf ops j = some s ∧ look Γ s = some (Ty.ex (.bool true))
theorem Met.step (h : Met ops Γ o) (hF : Fr N Γ a w) (hk : ∀ K : Act → World → Prop, (∀ a' w', wpList P ops Q rest a' w' → K a' w') → Oper.wp P o a w K Q) : wpList P ops Q (o :: rest) a w := by
  rcases h with h | ⟨j, s, hg, hj, hs⟩
  · exact wpList_plain h fun K hK => hk K hK
  · obtain ⟨v, h1, h2⟩ := hF.val s _ hs
    have h2 : v = .bool true := h2
    subst h2
    have hw : Region.wanted o (yielded ops a.tmps) = true := by simp [Region.wanted, hg, yielded_of hj h1]
    refine wpList_step fun K hK => ?_
    rw [if_pos hw]
    exact hk K hK
/-- []byte of a constant: laid, then frozen. -/
theorem tlConstB {d1 d2 n : Nat} {t e : TypeId} {vs : List Value} {parts : Array (Nat × Operand)} (hF : Fr N Γ a w) (hd1 : o.dst = some d1) (hN1 : decide (d1 < N) = true) (ho : o.op = .buildSlice t n parts) (hp : ∀ a : Act, (parts.map fun (i, x) => (i, a.eval x)) = (vs.zipIdx.map fun p => (p.2, p.1)).toArray) (hn : vs.length = n) (hc : ∀ v ∈ vs, v.cells = #[v]) (ht : P.underlying t = some (.slice e)) (he : P.underlying e = some (.int .u8)) (hi : (P.info? e).map (fun i => (i.zero, i.size, i.bytes)) = some (some (.int .u8 0), 1, 1))
    (hd2 : o2.dst = some d2) (hN2 : decide (d2 < N) = true) (ho2 : o2.op = .convert t t (.tmp d1)) (hm : n ≤ 1000)
    (hk : ∀ a' w', Fr N ((d2, Ty.sl e n vs) :: Γ) a' w' → Below w.heap.size w w' → wpList P ops Q rest a' w') (hΓ : look Γ d1 = none := by rfl) (g1 : Met ops Γ o := by exact .inl rfl) (g2 : Met ops Γ o2 := by exact .inl rfl) : wpList P ops Q (o :: o2 :: rest) a w := by
  have hr := run_buildSlice (P := P) (t := t) n vs ht hi hn (fun v hv => by rw [hc v hv]; rfl) (by omega) w
  have h1 : (vs.map fun v => v.cells.toList).flatten.toArray = vs.toArray := by
    have : (vs.map fun v => v.cells.toList) = vs.map fun v => [v] := List.map_congr_left fun v hv => by rw [hc v hv]
    rw [this, ← List.flatMap_def]
    simp
  rw [h1] at hr
  refine g1.step hF fun K hK => ?_
  unfold Oper.wp execOp
  simp only [ho]
  rw [hp a, Sem.run_bind, hr]
  refine hK _ _ ?_
  rw [hd1]
  have hF1 : Fr N ((d1, Ty.ex (.slice (some ⟨w.heap.size, 0, none⟩) n n)) :: Γ) (a.put (some d1) (.slice (some ⟨w.heap.size, 0, none⟩) n n)) (w.alloc (.cells vs.toArray e)) := hF.put (of_decide_eq_true hN1) ((Keeps.refl [] w).alloc _).below rfl
  have kc := Lib.run_convert_bytes_const (P := P) w t e vs.toArray n n ht he
  have g2' : Met ops ((d1, Ty.ex (.slice (some ⟨w.heap.size, 0, none⟩) n n)) :: Γ) o2 := by
    rcases g2 with h | ⟨j, s, hg, hj, hs⟩
    · exact .inl h
    · refine .inr ⟨j, s, hg, hj, ?_⟩
      rw [look_ne _ _ (fun e => by subst e; rw [hΓ] at hs; cases hs)]
      exact hs
  refine g2'.step hF1 fun K2 hK2 => ?_
  unfold Oper.wp execOp
  simp only [ho2, hF1.getEx (s := d1) (look_same _ _ _)]
  rw [Sem.run_bind, kc]
  refine hK2 _ _ ?_
  rw [hd2]
  have hb : Below w.heap.size w (w.alloc (.cells vs.toArray e (vs.toArray.size, vs.toArray.size + 1))) := ((Keeps.refl [] w).alloc _).below
  refine hk _ _ ?_ hb
  have hF0 : Fr N Γ (a.put (some d1) (.slice (some ⟨w.heap.size, 0, none⟩) n n)) (w.alloc (.cells vs.toArray e (vs.toArray.size, vs.toArray.size + 1))) := by
    refine ⟨by simp only [Act.put]; simpa using hF.size, hF.defers, fun s τ hs => ?_⟩
    have hne : d1 ≠ s := fun e => by subst e; rw [hΓ] at hs; cases hs
    obtain ⟨v, k1, k2⟩ := hF.val s τ hs
    refine ⟨v, ?_, τ.below k2 hb⟩
    simp only [Act.put]
    rw [Array.getElem?_setIfInBounds_ne hne]
    exact k1
  refine hF0.put (of_decide_eq_true hN2) (Below.refl _ _) ?_
  exact ⟨_, n, rfl, Nat.le_refl _, by simp [maxLen]; omega, fun h => (by cases h), fun j u hu => ⟨w.heap.size, 0, vs.toArray, _, rfl, heap_alloc_new w _, by rw [Nat.zero_add]; simpa using hu⟩⟩
/-- A slice of one slice, both in blocks of the region's own. -/
def OTy.slT1 (e u : TypeId) (n : Nat) (xs : List Value) : OTy := ⟨Ty.slT e 1 [Ty.sl u n xs], fun w v S => ∃ g g2 off c cs fr cs2 fr2, v = .slice (some ⟨g, 0, none⟩) 1 1 ∧ S = [g, g2] ∧ w.heap[g]? = some (.cells cs e fr) ∧ cs[0]? = some (.slice (some ⟨g2, off, none⟩) n c) ∧ n ≤ c ∧ c ≤ maxLen ∧ w.heap[g2]? = some (.cells cs2 u fr2) ∧ ∀ (j : Nat) (x : Value), xs[j]? = some x → cs2[off + j]? = some x,
  fun ⟨g, g2, off, c, cs, fr, cs2, fr2, h1, _, h3, h4, h5, h6, h7, h8⟩ => ⟨_, 1, h1, Nat.le_refl _, by simp [maxLen], fun h => (by cases h), fun j τ hj => by
    cases j with
    | zero =>
      simp only [List.getElem?_cons_zero, Option.some.injEq] at hj
      subst hj
      exact ⟨g, 0, cs, fr, _, rfl, h3, h4, ⟨_, c, rfl, h5, h6, fun h => (by cases h), fun j u hu => ⟨g2, off, cs2, fr2, rfl, h7, h8 j u hu⟩⟩⟩
    | succ j => simp at hj⟩,
  fun ⟨g, g2, off, c, cs, fr, cs2, fr2, h1, h2, h3, h4, h5, h6, h7, h8⟩ k hd => ⟨g, g2, off, c, cs, fr, cs2, fr2, h1, h2, (k.block g (Array.getElem?_eq_some_iff.1 h3).1 (hd g (by simp [h2]))).trans h3, h4, h5, h6, (k.block g2 (Array.getElem?_eq_some_iff.1 h7).1 (hd g2 (by simp [h2]))).trans h7, h8⟩,
  fun ⟨g, g2, off, c, cs, fr, cs2, fr2, h1, h2, h3, h4, h5, h6, h7, h8⟩ b hb => by
    rw [h2] at hb
    simp only [List.mem_cons, List.not_mem_nil, or_false] at hb
    rcases hb with rfl | rfl
    · exact (Array.getElem?_eq_some_iff.1 h3).1
    · exact (Array.getElem?_eq_some_iff.1 h7).1⟩
theorem tkBuildT1 {s n bytes : Nat} {t e u : TypeId} {z : Value} {xs : List Value} (ho : o.op = .buildSlice t 1 #[(0, .tmp s)]) (hu : P.underlying t = some (.slice e)) (hi : (P.info? e).map (fun i => (i.zero, i.size, i.bytes)) = some (some z, 1, bytes)) : OpTk P w0 Γ o (OTy.slo u n xs) (OTy.slT1 e u n xs) s := fun a w S0 K Q hb hs ⟨v, hv1, g2, off, c, cs2, fr2, h1, h2, h3, h4, h5, h6⟩ hK => by
  subst h1
  have hr := run_buildSlice (P := P) (t := t) 1 [.slice (some ⟨g2, off, none⟩) n c] hu hi rfl (by simp [Value.cells]) (by decide) w
  have ea : a.eval (.tmp s) = .slice (some ⟨g2, off, none⟩) n c := by simp [Act.eval, Array.getD_eq_getD_getElem?, hv1]
  unfold Oper.wp execOp
  simp only [ho]
  rw [show ((#[(0, (.tmp s : Operand))] : Array (Nat × Operand)).map fun (i, x) => (i, a.eval x)) = (([.slice (some ⟨g2, off, none⟩) n c] : List Value).zipIdx.map fun p => (p.2, p.1)).toArray by simp [ea], Sem.run_bind, hr]
  have hk : Keeps S0 w (w.alloc (.cells (([.slice (some ⟨g2, off, none⟩) n c] : List Value).map fun v => v.cells.toList).flatten.toArray e)) := (Keeps.refl S0 w).alloc _
  have hl2 := (Array.getElem?_eq_some_iff.1 h5).1
  simp only [Result.andThen_ok, Sem.run_pure]
  refine hK _ _ [w.heap.size, g2] ⟨w.heap.size, g2, off, c, _, (0, 0), cs2, fr2, rfl, rfl, heap_alloc_new w _, by simp [Value.cells], h3, h4, ?_, h6⟩ (fun b hb => ?_) hk
  · rw [((Keeps.refl [] w).alloc _).block g2 hl2 (by simp)]
    exact h5
  · simp only [List.mem_cons, List.not_mem_nil, or_false] at hb
    rcases hb with rfl | rfl
    · exact .inr (Nat.le_refl _)
    · exact .inl (by simp [h2])
/-- Bytes as a string; strings alike. -/
theorem cStrOf {src dst e : TypeId} {x : Operand} {b : List Nat} (ho : o.op = .convert src dst x) (hx : Has w0 Γ x (Ty.rdB b)) (hs : P.underlying src = some (.slice e)) (he : P.underlying e = some (.int .u8)) (hd : P.underlying dst = some .string) : OpOk P w0 Γ o (Ty.ex (.string (strB b))) :=
  .val fun a w hb hs' => by
    obtain ⟨v, h1, A, c, rfl, h2, h3, h4, h5⟩ := hx.see hs' (by simp [ho, Op.operands]) hb
    have hr := run_string_rd (P := P) w src dst e hs he hd A b.length c b rfl h5 h4
    refine ⟨_, rfl, ?_⟩
    unfold execOp
    simp only [ho, h1]
    rw [Sem.run_bind, hr]
    rfl
theorem cEqlStr {t t2 : TypeId} {x y : Operand} {s r : ByteArray} (ho : o.op = .binOp .eql t x y t2) (hx : OpT Γ x (Ty.ex (.string s))) (hy : OpT Γ y (Ty.ex (.string r))) : OpOk P w0 Γ o (Ty.ex (.bool (s.toList == r.toList))) :=
  cBin ho hx hy fun w => by simp [eqGuard, binOp, Op.stringOp]
end
theorem sl_rdB {e : TypeId} (b : List Nat) : ∀ w v, (Ty.sl e b.length (b.map bv)).p w v → (Ty.rdB b).p w v := fun w v h => by
  obtain ⟨A, c, h1, h2, h3, h4, h5⟩ := id h
  subst h1
  exact ⟨A, c, rfl, h2, h3, fun hA => (h4 hA).1, SlP.rd h⟩
theorem bv_cells (l : List Nat) : ∀ v ∈ l.map bv, v.cells = #[v] := fun v hv => by
  obtain ⟨x, _, rfl⟩ := List.mem_map.1 hv
  rfl
theorem infoU8c : (Try.prog.info? 5).map (fun i => (i.zero, i.size, i.bytes)) = some (some (.int .u8 0), 1, 1) := by kernel_rfl
abbrev tenB : List Nat := [48, 49, 50, 51, 52, 53, 54, 55, 56, 57]
theorem ten_str : ((strB tenB).toList == ({ data := #[48, 49, 50, 51, 52, 53, 54, 55, 56, 57] } : ByteArray).toList) = true := by
  have e : strB tenB = ({ data := #[48, 49, 50, 51, 52, 53, 54, 55, 56, 57] } : ByteArray) := rfl
  rw [e]
  exact beq_self_eq_true _
theorem ten_cut : pcsB tenB = [tenB] := by decide +kernel
set_option maxRecDepth 100000 in
set_option maxHeartbeats 1000000 in
theorem awake11_ty : Fn0 Try.prog 7 (Ty.ex (.bool true)) := by
  refine ⟨fun args w => by kernel_rfl, fun w => ?_⟩
  have hO := sumOf1_ty (e := 22) (τ := Ty.sl 5 10 (tenB.map bv)) tenB (reads_sl _ _ _) (by simp) (by simp)
  have hC := ccut_ty tenB (by decide) (by simp)
  have hG := goodq_ty (shaS tenB, tenB) (by simp) (by decide)
  have e1 : cutQ tenB = [(shaS tenB, tenB)] := by unfold cutQ; rw [ten_cut]; rfl
  have e2 : goodQ (shaS tenB, tenB) = true := by simp [goodQ]
  rw [e1] at hC
  rw [e2] at hG
  have e3 : shaL tenB = (shaS tenB).l := rfl
  rw [e3] at hO
  generalize shaS tenB = X at *
  clear e1 e2 e3
  refine enter_ty 33 [] Try.func7 rfl (by kernel_rfl) trivial fun a hF => ?_
  have hB := Below.refl w.heap.size w
  repeat with_reducible refine wp_seq ?_
  refine' reg_all hF ?_ mixed (by kernel_rfl) ?_
  rotate_left
  · repeat (first | exact Line.nil | ((refine' Line.cons rfl (.run rfl rfl ?_) ?_); (any_goals exact cAssign rfl rfl); rotate_left))
  intro a w1 hF hb hN
  have hBs := hB.size
  replace hB := hB.trans (hb.mono hB.size)
  dsimp only [ext, Option.getD] at hF
  repeat with_reducible first | refine wp_seq ?_ | refine nThen ?_
  refine wp_region_lit ?_
  refine tlConstB (n := 10) (vs := tenB.map bv) (hF.keep [0]) rfl rfl rfl (fun a => by simp [Act.eval, bv]) rfl (bv_cells _) Try.underlying22 Try.underlying5 infoU8c rfl rfl rfl (by decide) ?_
  intro a w3 hF hb
  replace hB := hB.trans (hb.mono hB.size)
  refine' tlOp hF rfl rfl rfl ?_ ?_
  rotate_left
  · exact cCallH1 rfl (Has.c (.t rfl) (sl_rdB tenB)) hC
  intro a w4 hF hb
  have hBs := hB.size
  replace hB := hB.trans (hb.mono hB.size)
  try (refine wpList_nil ?_)
  refine' tlOp hF rfl rfl rfl ?_ ?_
  rotate_left
  · exact cAssign rfl rfl
  intro a w5 hF hb
  have hBs := hB.size
  replace hB := hB.trans (hb.mono hB.size)
  try (refine wpList_nil ?_)
  repeat with_reducible first | refine wp_seq ?_ | refine nThen ?_
  obtain ⟨v1, ⟨L, ⟨hLl, hLQ⟩, hsl⟩, hF⟩ := hF.open (s := 1) rfl
  have hL0 := hLQ 0 (by simp)
  have hlen : L.length = 1 := hLl
  obtain ⟨l0, rfl⟩ : ∃ l0, L = [l0] := List.length_eq_one_iff.1 hlen
  obtain ⟨x0, u⟩ := l0
  obtain ⟨hx0, hu0⟩ := hL0
  have hx0 : x0 = X := hx0
  have hu0 : (Ty.rdB tenB).p w5 u := hu0
  subst hx0
  have hat := hsl
  obtain ⟨A, c, rfl, hc1, hc2, hcA, hcell⟩ := hsl
  obtain ⟨g, off, cs, fr, rfl, -, -⟩ := hcell 0 _ (List.getElem?_eq_getElem (by rw [flatQ_len]; simp))
  have hrd := SlP.rd hat
  have e0 : flatQ [(x0, u)] = x0.enc ++ [u] := by rw [flatQ_cons]; simp [flatQ]
  rw [e0] at hrd
  have hsA := rdB_slice hu0
  have hpP : (Ty.atR (x0.enc ++ [u])).p w5 (.pointer (some ⟨g, off + 0 * 33, none⟩)) := ⟨_, rfl, by rw [Nat.zero_mul, Nat.add_zero]; exact hrd, by simp⟩
  have hpB : (Ty.atR [u]).p w5 (.pointer (some ⟨g, off + 0 * 33 + 32, none⟩)) := by
    have h := rd_add hrd 32
    rw [List.drop_append, encL, List.drop_of_length_le (Nat.le_of_eq (encL _)), List.nil_append, Nat.sub_self, List.drop_zero] at h
    exact ⟨_, rfl, by rw [Nat.zero_mul, Nat.add_zero]; exact h, by simp⟩
  have hpS : (Ty.atR x0.enc).p w5 (.pointer (some ⟨g, off + 0 * 33 + 0, none⟩)) := ⟨_, rfl, by rw [Nat.zero_mul, Nat.add_zero]; exact rd_pre hrd, fun h => by have := congrArg List.length h; rw [encL] at this; cases this⟩
  have hpC : (Ty.pc (x0, tenB)).p w5 (.agg (pcA x0 u)) := ⟨u, rfl, hu0⟩
  clear hcell
  refine' region_own 29 [(23, 27), (24, 28)] mixed (by kernel_rfl) hF ?_ ?_
  rotate_left
  · simp only [List.take_succ_cons, List.take_zero]
    repeat (first
        | exact LineO.nil
        | (refine' LineO.cons rfl rfl (.no rfl rfl rfl rfl rfl) ?_; rotate_left)
        | ((first | refine' LineO.cons rfl rfl (.run rfl ?_) ?_ | refine' LineO.cons rfl rfl (.yes rfl rfl rfl ?_) ?_)
           any_goals (first | exact .ex (cMove rfl rfl) | exact .ex (cAssign rfl rfl) | exact .ex (cLenEx rfl rfl Try.underlying24) | exact .ex (cIndexEx (k := 0) (sz := 33) rfl rfl rfl Try.underlying24 sizePc (by simp)) | exact .ex (cLoadQX rfl (.l rfl hpP) Try.underlying29 rfl sizePc) | exact .ex (cCallH1 rfl (.l rfl hpC) hG) | exact .ex (cFieldExE rfl rfl Try.underlying29 rfl sizeB1) | exact .ex (cFieldExE rfl rfl Try.underlying29 rfl sizeS) | exact .ex (cLoad1 rfl (.l rfl hpB) (pts_atR _) Try.underlying22 rfl) | exact .ex (cLoadSumR rfl (.l rfl hpS) Try.underlying27 sizeS) | exact .ex (cStrOf rfl (.l rfl hu0) Try.underlying22 Try.underlying5 Try.underlying9) | exact .ex (OpOk.b (c := true) (cEqlStr rfl rfl rfl) ten_str) | exact oBuild (vs := tenB.map bv) rfl (fun a w _ => by simp [Act.eval, bv]) Try.underlying22 infoU8c rfl (fun v hv => by rw [bv_cells _ v hv]; rfl) (by decide) (by simp [maxLen]) | exact .ex (cCall1 rfl rfl hO) | exact .ex (OpOk.b (c := true) (cEqlAgg rfl rfl rfl guardS (eqlS _ _)) (decide_eq_true rfl)) | exact .ex (cPickT rfl rfl rfl) | exact .ex (cEql rfl rfl rfl))
           rotate_left)
        | ((first | refine' LineO.take rfl rfl rfl (.run rfl ?_) ?_ | refine' LineO.take rfl rfl rfl (.yes rfl rfl rfl ?_) ?_)
           any_goals (first | exact tkFreeze rfl Try.underlying22 Try.underlying5 (by decide) | exact tkBuildT1 rfl Try.underlying57 infoB)
           rotate_left))
  intro a w6 hF hb hN
  have hBs := hb.size
  replace hB := hB.trans (hb.mono hB.size)
  simp only [List.take_succ_cons, List.take_zero, List.drop_succ_cons, List.drop_zero] at hF hN ⊢
  dsimp only [hideT, List.foldr, extO, Option.getD, OTy.ex, OTy.seg, OTy.slo, OTy.var] at hF
  refine wpList_nil ?_
  repeat with_reducible first | refine nThen ?_ | refine wp_ret ?_
  refine ret1 hF rfl rfl fun z hz => ?_
  exact ⟨z, rfl, hz, hB⟩
end Go.Proofs.Ytbjlmhbpcopfbaa

/- Walks of the reference's Next and Ends, of any rule. -/
namespace Go.Proofs.Ytbjlmhbpcopfbaa
open Go.RowKit

end Go.Proofs.Ytbjlmhbpcopfbaa

/- Walks of layer 6: awake; the laws. -/
namespace Go.Proofs.Ytbjlmhbpcopfbaa
open Go.RowKit

end Go.Proofs.Ytbjlmhbpcopfbaa

/- Layer 6: the walk of CutLocal; its plain law. -/
namespace Go.Proofs.Ytbjlmhbpcopfbaa
open Go.RowKit

theorem fit_window (b rest : List Nat) (k j : Nat) (h : k ≤ b.length) : ((b ++ rest).take k).drop j = (b.take k).drop j := by
  rw [List.take_append_of_le_length h]
theorem scan_same (wd mask want : Nat) (b rest : List Nat) : ∀ f n, n + f ≤ b.length → scanS wd mask want (b ++ rest) f n = scanS wd mask want b f n := by
  intro f
  induction f with
  | zero => intro n _; rfl
  | succ f ih =>
    intro n h
    rw [scanS, scanS, fit_window b rest _ _ (by omega), ih (n + 1) (by omega)]
theorem scan_local (wd mask want : Nat) (b rest : List Nat) : ∀ f g n, n + f ≤ b.length → scanS wd mask want b f n = scanS wd mask want (b ++ rest) (f + g) n ∨ (scanS wd mask want b f n = n + f ∧ n + f ≤ scanS wd mask want (b ++ rest) (f + g) n) := by
  intro f g
  induction f with
  | zero =>
    intro n _
    have := scanS_bounds wd mask want (b ++ rest) (0 + g) n
    exact .inr ⟨rfl, by omega⟩
  | succ f ih =>
    intro n h
    rw [show f + 1 + g = (f + g) + 1 by omega, scanS, scanS, fit_window b rest _ _ (by omega)]
    split
    · exact .inl rfl
    · have := ih (n + 1) (by omega)
      omega
theorem next_local (mn mx wd mask want : Nat) (b rest : List Nat) (h1 : 1 ≤ mn) (h2 : mn ≤ mx) :
    nextS mn mx wd mask want b = nextS mn mx wd mask want (b ++ rest) ∨ (nextS mn mx wd mask want b = b.length ∧ b.length ≤ nextS mn mx wd mask want (b ++ rest)) := by
  have hb := nextS_bounds mn mx wd mask want (b ++ rest) h1 h2
  have ha : (b ++ rest).length = b.length + rest.length := List.length_append
  by_cases h : min mx b.length < mn
  · right
    have e : nextS mn mx wd mask want b = b.length := by unfold nextS; rw [if_pos h]; omega
    refine ⟨e, ?_⟩
    by_cases h' : min mx (b ++ rest).length < mn
    · have e' : nextS mn mx wd mask want (b ++ rest) = (b ++ rest).length := by unfold nextS; rw [if_pos h']; omega
      omega
    · have e' : nextS mn mx wd mask want (b ++ rest) = scanS wd mask want (b ++ rest) (min mx (b ++ rest).length + 1 - mn) (mn - 1) := by unfold nextS; rw [if_neg h']
      have := scanS_bounds wd mask want (b ++ rest) (min mx (b ++ rest).length + 1 - mn) (mn - 1)
      omega
  · have e : nextS mn mx wd mask want b = scanS wd mask want b (min mx b.length + 1 - mn) (mn - 1) := by unfold nextS; rw [if_neg h]
    have e' : nextS mn mx wd mask want (b ++ rest) = scanS wd mask want (b ++ rest) (min mx (b ++ rest).length + 1 - mn) (mn - 1) := by unfold nextS; rw [if_neg (by omega)]
    rw [e, e']
    by_cases hm : mx ≤ b.length
    · left
      rw [show min mx (b ++ rest).length = mx by omega, show min mx b.length = mx by omega]
      exact (scan_same wd mask want b rest _ _ (by omega)).symm
    · rcases scan_local wd mask want b rest (min mx b.length + 1 - mn) (min mx (b ++ rest).length - min mx b.length) (mn - 1) (by omega) with h3 | h3
      · left; rw [h3]; congr 1; omega
      · right
        rw [show min mx b.length + 1 - mn + (min mx (b ++ rest).length - min mx b.length) = min mx (b ++ rest).length + 1 - mn by omega] at h3
        omega

end Go.Proofs.Ytbjlmhbpcopfbaa

/- Layer 6: the walk of CutFew; its plain law. -/
namespace Go.Proofs.Ytbjlmhbpcopfbaa
open Go.RowKit

end Go.Proofs.Ytbjlmhbpcopfbaa

/- Layer 6: the walk of CutPlain; its plain law. -/
namespace Go.Proofs.Ytbjlmhbpcopfbaa
open Go.RowKit

end Go.Proofs.Ytbjlmhbpcopfbaa

/- Layer 6: the walk of CutSays. -/
namespace Go.Proofs.Ytbjlmhbpcopfbaa
open Go.RowKit

end Go.Proofs.Ytbjlmhbpcopfbaa

/- Layer 6: the walk of CutAgain; its plain law. -/
namespace Go.Proofs.Ytbjlmhbpcopfbaa
open Go.RowKit

theorem ends_shift (f : List Nat → Nat) (hf : ∀ b : List Nat, b.length ≠ 0 → 1 ≤ f b ∧ f b ≤ b.length) : ∀ (n s d : Nat) (b : List Nat), b.length ≤ n → ends f (d + s) b = (ends f s b).map (d + ·) := by
  intro n
  induction n with
  | zero =>
    intro s d b h
    obtain rfl : b = [] := List.eq_nil_of_length_eq_zero (by omega)
    rfl
  | succ n ih =>
    intro s d b h
    by_cases hb : b.length = 0
    · obtain rfl : b = [] := List.eq_nil_of_length_eq_zero hb
      rfl
    · have := hf b hb
      rw [ends_step f hf _ b hb, ends_step f hf s b hb, List.map_cons, Nat.add_assoc, ih (s + f b) d _ (by rw [List.length_drop]; omega)]
end Go.Proofs.Ytbjlmhbpcopfbaa

/- Chunks plainly: the pieces one behind the other; cutting on behind a whole piece. -/
namespace Go.Proofs.Ytbjlmhbpcopfbaa

def fP (b : List Nat) : Nat := nextR 16 128 8 31 7 b
theorem fP_f : ∀ b : List Nat, b.length ≠ 0 → 1 ≤ fP b ∧ fP b ≤ b.length := nextR_f 31 7 (by decide)
theorem fP_S (b : List Nat) : fP b = nextS 16 128 8 31 7 b := by
  unfold fP nextR
  rw [if_pos (by decide)]
  rfl
theorem pcsB_nil : pcsB [] = [] := by decide +kernel
theorem pcsB_step (b : List Nat) (hb : b.length ≠ 0) : pcsB b = b.take (fP b) :: pcsB (b.drop (fP b)) := by
  have hg : goodS 16 128 8 = true := by decide
  have e1 : ∀ c : List Nat, endsR 16 128 8 31 7 c = ends fP 0 c := fun c => by unfold endsR; rw [if_pos hg]; rfl
  unfold pcsB
  rw [e1, e1, ends_step fP fP_f 0 b hb, Nat.zero_add]
  have h2 := ends_shift fP fP_f _ 0 (fP b) (b.drop (fP b)) (Nat.le_refl _)
  rw [Nat.add_zero] at h2
  rw [h2]
  generalize ends fP 0 (b.drop (fP b)) = E
  unfold partsS
  rw [List.length_cons, List.length_map, List.range_succ_eq_map, List.map_cons, List.map_map]
  congr 1
  refine List.map_congr_left fun i hi => ?_
  have hi := List.mem_range.1 hi
  have g1 : ((E.map (fP b + ·))).getD i 0 = fP b + E.getD i 0 := by simp [List.getD, List.getElem?_map, List.getElem?_eq_getElem hi]
  have g2 : (fP b :: (E.map (fP b + ·))).getD i 0 = fP b + (0 :: E).getD i 0 := by
    cases i with
    | zero => rfl
    | succ i => simp [List.getD, List.getElem?_eq_getElem (show i < E.length by omega)]
  show ((b.take ((E.map (fP b + ·)).getD i 0)).drop ((fP b :: (E.map (fP b + ·))).getD i 0)) = (((b.drop (fP b)).take (E.getD i 0)).drop ((0 :: E).getD i 0))
  rw [g1, g2, ← List.drop_drop, List.drop_take, Nat.add_sub_cancel_left]
theorem pcsB_ind (M : List Nat → Prop) (h0 : M []) (h1 : ∀ b, b.length ≠ 0 → M (b.drop (fP b)) → M b) : ∀ b, M b := by
  have key : ∀ n b, b.length ≤ n → M b := by
    intro n
    induction n with
    | zero =>
      intro b h
      obtain rfl : b = [] := List.eq_nil_of_length_eq_zero (by omega)
      exact h0
    | succ n ih =>
      intro b h
      by_cases hb : b.length = 0
      · obtain rfl : b = [] := List.eq_nil_of_length_eq_zero hb
        exact h0
      · have := fP_f b hb
        exact h1 b hb (ih _ (by rw [List.length_drop]; omega))
  exact fun b => key b.length b (Nat.le_refl _)
theorem pcsB_join (b : List Nat) : (pcsB b).flatten = b := by
  refine pcsB_ind (fun b => (pcsB b).flatten = b) (by rw [pcsB_nil]; rfl) (fun b hb ih => ?_) b
  rw [pcsB_step b hb, List.flatten_cons, ih, List.take_append_drop]
theorem fP_most (b : List Nat) : fP b ≤ 128 := by
  have h := nextS_bounds 16 128 8 31 7 b (by omega) (by omega)
  rw [← fP_S] at h
  omega
theorem pcsB_few (b : List Nat) : (pcsB b).length * 16 ≤ b.length + 15 := by
  refine pcsB_ind (fun b => (pcsB b).length * 16 ≤ b.length + 15) (by rw [pcsB_nil]; simp) (fun b hb ih => ?_) b
  have h1 := fP_f b hb
  have h := nextS_bounds 16 128 8 31 7 b (by omega) (by omega)
  rw [← fP_S] at h
  rw [pcsB_step b hb, List.length_cons]
  rw [List.length_drop] at ih
  by_cases hz : fP b = b.length
  · rw [hz, List.drop_length, pcsB_nil]
    simp
    omega
  · omega
/-- Behind a whole last piece it is cut on as at a beginning. -/
theorem pcsB_app (b : List Nat) : ∀ a : List Nat, (∀ p, (pcsB a).getLast? = some p → 128 ≤ p.length) → pcsB (a ++ b) = pcsB a ++ pcsB b := by
  refine pcsB_ind (fun a => (∀ p, (pcsB a).getLast? = some p → 128 ≤ p.length) → pcsB (a ++ b) = pcsB a ++ pcsB b) (fun _ => by rw [pcsB_nil]; rfl) (fun a ha ih h => ?_)
  have hf := fP_f a ha
  have hfe : fP (a ++ b) = fP a := by
    rcases next_local 16 128 8 31 7 a b (by omega) (by omega) with h1 | ⟨h1, _⟩
    · rw [fP_S, fP_S, h1]
    · rw [← fP_S] at h1
      have h2 : pcsB a = [a] := by
        rw [pcsB_step a ha, h1, List.take_length, List.drop_length, pcsB_nil]
      rw [h2] at h
      have h3 := h a rfl
      have h4 := fP_most a
      have h5 : a.length = 128 := by omega
      rw [fP_S, fP_S]
      unfold nextS
      rw [List.length_append, if_neg (by omega), if_neg (by omega), show min 128 (a.length + b.length) = 128 by omega, show min 128 a.length = 128 by omega]
      exact scan_same 8 31 7 a b _ _ (by omega)
  rw [pcsB_step (a ++ b) (by rw [List.length_append]; omega), hfe, List.take_append_of_le_length hf.2, List.drop_append_of_le_length hf.2, pcsB_step a ha, ih, List.cons_append]
  intro p hp
  refine h p ?_
  rw [pcsB_step a ha, List.getLast?_cons, hp]
  rfl
end Go.Proofs.Ytbjlmhbpcopfbaa

/- Chunks: the walk of ChunkShares. -/
namespace Go.Proofs.Ytbjlmhbpcopfbaa
open Go.RowKit

theorem wp_cut {P : Program} {c : Code} {R S : Act → World → Prop} {Q : Exit → Act → World → Prop} {a : Act} {w : World} (h : c.wp P (Exit.then R Q) a w) (hm : ∀ a w, R a w → S a w) : c.wp P (Exit.then S Q) a w :=
  wp_mono h fun e a w hh => by cases e <;> first | exact hm _ _ hh | exact hh
/-- How long the first pieces are together. -/
def sumQ (Q : List (Sm × List Nat)) (k : Nat) : Nat := ((Q.take k).map fun q => q.2.length).sum
theorem sumQ_succ (Q : List (Sm × List Nat)) {k : Nat} (h : k < Q.length) : sumQ Q (k + 1) = sumQ Q k + (Q.getD k (Sm.zero, [])).2.length := by
  unfold sumQ
  rw [List.take_succ_eq_append_getElem h, List.map_append, List.sum_append]
  simp [List.getD, List.getElem?_eq_getElem h]
theorem sumQ_le (Q : List (Sm × List Nat)) (k : Nat) : sumQ Q k ≤ sumQ Q Q.length := by
  unfold sumQ
  rw [List.take_length]
  conv => rhs; rw [← List.take_append_drop k Q, List.map_append, List.sum_append]
  exact Nat.le_add_right _ _
theorem sumQ_cut (b : List Nat) : sumQ (cutQ b) (cutQ b).length = b.length := by
  unfold sumQ
  rw [List.take_length]
  have h : (pcsB b).flatten.length = b.length := by rw [pcsB_join]
  rw [List.length_flatten] at h
  unfold cutQ
  rw [List.map_map]
  exact h
theorem cutQ_app {a b : List Nat} (h : ∀ q, (cutQ a).getLast? = some q → 128 ≤ q.2.length) : cutQ (a ++ b) = cutQ a ++ cutQ b := by
  unfold cutQ at *
  rw [pcsB_app b a, List.map_append]
  intro p hp
  exact h (shaS p, p) (by rw [List.getLast?_map, hp]; rfl)
theorem getD_app {α : Type} {A B : List α} {k : Nat} (d : α) (h : k < A.length) : (A ++ B).getD k d = A.getD k d := by
  simp [List.getD, List.getElem?_append_left h]
theorem last_getD {α : Type} {A : List α} (d : α) {n : Nat} (h : A.length = n + 1) : A.getLast? = some (A.getD n d) := by
  rw [List.getLast?_eq_getElem?, h, Nat.add_sub_cancel]
  simp [List.getD, List.getElem?_eq_getElem (show n < A.length by omega)]
theorem rdB_news {w : World} {b : List Nat} : ∀ u, (Ty.rdB b).p w u → ∃ A c, u = .slice A b.length c ∧ (A = none → b.length = 0) ∧ Rd w A (b.map bv) := fun _ ⟨A, c, h1, _, _, h4, h5⟩ => ⟨A, c, h1, h4, h5⟩
theorem bv_oneC (b : List Nat) : ∀ u ∈ b.map bv, u.oneCell' = true := fun u hu => by
  obtain ⟨x, _, rfl⟩ := List.mem_map.1 hu
  rfl
theorem seg_rdB {w : World} {v : Value} {b : List Nat} {S : List Nat} (h : Seg w 5 1 v b.length (b.map bv) S) : (Ty.rdB b).p w v := sl_rdB b w v h.sl
set_option maxRecDepth 100000 in
set_option maxHeartbeats 2000000 in
theorem lawChunkShares_any (la lb : List Nat) {W : World} {v0 v1 : Value} (h0 : (Ty.rdB la).p W v0) (h1 : (Ty.rdB lb).p W v1) (hxa : ∀ x ∈ la, x < 256) (hxb : ∀ x ∈ lb, x < 256) : Calls Try.prog 3 #[v0, v1] W fun e w' => e = .returned (.bool true) ∧ Below W.heap.size W w' := by
  refine enter_ty 94 [Ty.ex v0, Ty.ex v1] Try.func3 rfl (by kernel_rfl) ⟨rfl, rfl, trivial⟩ fun a hF => ?_
  have hB := Below.refl W.heap.size W
  repeat with_reducible refine wp_seq ?_
  refine' reg_all hF ?_ mixed (by kernel_rfl) ?_
  rotate_left
  · repeat (first | exact Line.nil | ((refine' Line.cons rfl (.run rfl rfl ?_) ?_); (any_goals exact cAssign rfl rfl); rotate_left))
  intro a w1 hF hb hN
  have hBs := hB.size
  replace hB := hB.trans (hb.mono hB.size)
  dsimp only [ext, Option.getD] at hF
  repeat with_reducible first | refine wp_seq ?_ | refine nThen ?_
  refine' reg_all hF ?_ mixed (by kernel_rfl) ?_
  rotate_left
  · repeat (first | exact Line.nil | ((refine' Line.cons rfl (.run rfl rfl ?_) ?_); (any_goals (first | exact cNot rfl rfl | exact cCall0 rfl awake11_ty)); rotate_left))
  intro a w2 hF hb hN
  have hBs := hB.size
  replace hB := hB.trans (hb.mono hB.size)
  dsimp only [ext, Option.getD] at hF
  repeat with_reducible refine nThen ?_
  refine cond_f hF rfl ?_
  repeat with_reducible first | refine wp_seq ?_ | refine nThen ?_ | refine wp_skip ?_
  have h02 := (Ty.rdB la).below h0 hB
  have h12 := (Ty.rdB lb).below h1 hB
  by_cases ha : la.length ≤ 800
  rotate_left
  · refine' reg_all hF ?_ mixed (by kernel_rfl) ?_
    rotate_left
    · repeat (first | exact Line.nil | (refine' Line.cons rfl (.no rfl rfl rfl rfl rfl rfl) ?_; rotate_left) | ((refine' Line.cons rfl (.run rfl rfl ?_) ?_); (any_goals (first | exact cMove rfl rfl | exact cLenH rfl (.l rfl h02) (rdB_isSl la) Try.underlying22 | exact OpOk.b (c := true) (cGtr rfl rfl rfl) (decide_eq_true (by omega)) | exact cPickT rfl rfl rfl)); rotate_left))
    intro a w3 hF hb hN
    have hBs := hB.size
    replace hB := hB.trans (hb.mono hB.size)
    dsimp only [ext, Option.getD] at hF
    repeat with_reducible refine nThen ?_
    refine cond_t hF rfl ?_
    repeat with_reducible refine wp_seq ?_
    refine' reg_all hF ?_ mixed (by kernel_rfl) ?_
    rotate_left
    · repeat (first | exact Line.nil | ((refine' Line.cons rfl (.run rfl rfl ?_) ?_); (any_goals exact cAssign rfl rfl); rotate_left))
    intro a w4 hF hb hN
    have hBs := hB.size
    replace hB := hB.trans (hb.mono hB.size)
    dsimp only [ext, Option.getD] at hF
    repeat with_reducible first | refine nThen ?_ | refine wp_ret ?_ | refine rThen ?_
    refine ret1 hF rfl rfl fun z hz => ?_
    exact ⟨by rw [show z = .bool true from hz], hB⟩
  by_cases hb8 : lb.length ≤ 800
  rotate_left
  · refine' reg_all hF ?_ mixed (by kernel_rfl) ?_
    rotate_left
    · repeat (first | exact Line.nil | ((first | refine' Line.cons rfl (.run rfl rfl ?_) ?_ | refine' Line.cons rfl (.yes rfl rfl rfl rfl ?_) ?_); (any_goals (first | exact cMove rfl rfl | exact cLenH rfl (.l rfl h02) (rdB_isSl la) Try.underlying22 | exact cLenH rfl (.l rfl h12) (rdB_isSl lb) Try.underlying22 | exact OpOk.b (c := false) (cGtr rfl rfl rfl) (decide_eq_false (by omega)) | exact OpOk.b (c := true) (cGtr rfl rfl rfl) (decide_eq_true (by omega)) | exact cPickF rfl rfl rfl)); rotate_left))
    intro a w3 hF hb hN
    have hBs := hB.size
    replace hB := hB.trans (hb.mono hB.size)
    dsimp only [ext, Option.getD] at hF
    repeat with_reducible refine nThen ?_
    refine cond_t hF rfl ?_
    repeat with_reducible refine wp_seq ?_
    refine' reg_all hF ?_ mixed (by kernel_rfl) ?_
    rotate_left
    · repeat (first | exact Line.nil | ((refine' Line.cons rfl (.run rfl rfl ?_) ?_); (any_goals exact cAssign rfl rfl); rotate_left))
    intro a w4 hF hb hN
    have hBs := hB.size
    replace hB := hB.trans (hb.mono hB.size)
    dsimp only [ext, Option.getD] at hF
    repeat with_reducible first | refine nThen ?_ | refine wp_ret ?_ | refine rThen ?_
    refine ret1 hF rfl rfl fun z hz => ?_
    exact ⟨by rw [show z = .bool true from hz], hB⟩
  have hC := ccut_ty la (by omega) hxa
  have hCS := ccut_ty (la ++ lb) (by rw [List.length_append]; omega) (fun x hx => by rcases List.mem_append.1 hx with h | h; exact hxa x h; exact hxb x h)
  have hCb := ccut_ty lb (by omega) hxb
  have hQS := cutQ_app (a := la) (b := lb)
  have f0 : sumQ (cutQ la) 0 = 0 := rfl
  have f1 := fun k => @sumQ_succ (cutQ la) k
  have f2 := sumQ_le (cutQ la)
  have f3 := sumQ_cut la
  have hQl : (cutQ la).length ≤ 800 := by unfold cutQ; rw [List.length_map]; exact Nat.le_trans (pcsB_len la) ha
  have hRl : (cutQ lb).length ≤ 800 := by unfold cutQ; rw [List.length_map]; exact Nat.le_trans (pcsB_len lb) hb8
  rw [f3] at f2
  generalize sumQ (cutQ la) = f at *
  generalize cutQ (la ++ lb) = QS at *
  generalize cutQ la = Q at *
  generalize cutQ lb = R at *
  refine' reg_all hF ?_ mixed (by kernel_rfl) ?_
  rotate_left
  · repeat (first | exact Line.nil | ((first | refine' Line.cons rfl (.run rfl rfl ?_) ?_ | refine' Line.cons rfl (.yes rfl rfl rfl rfl ?_) ?_); (any_goals (first | exact cMove rfl rfl | exact cLenH rfl (.l rfl h02) (rdB_isSl la) Try.underlying22 | exact cLenH rfl (.l rfl h12) (rdB_isSl lb) Try.underlying22 | exact OpOk.b (c := false) (cGtr rfl rfl rfl) (decide_eq_false (by omega)) | exact cPickF rfl rfl rfl)); rotate_left))
  intro a w3 hF hb hN
  have hBs := hB.size
  replace hB := hB.trans (hb.mono hB.size)
  dsimp only [ext, Option.getD] at hF
  repeat with_reducible refine nThen ?_
  refine cond_f hF rfl ?_
  repeat with_reducible first | refine wp_seq ?_ | refine nThen ?_ | refine wp_skip ?_
  replace h02 := (Ty.rdB la).below h02 hb
  refine' reg_all hF ?_ mixed (by kernel_rfl) ?_
  rotate_left
  · repeat (first | exact Line.nil | ((refine' Line.cons rfl (.run rfl rfl ?_) ?_); (any_goals (first | exact cMove rfl rfl | exact cAssign rfl rfl | exact cCallH1 rfl (.l rfl h02) hC)); rotate_left))
  intro a w4 hF hb hN
  have hBs := hB.size
  replace hB := hB.trans (hb.mono hB.size)
  dsimp only [ext, Option.getD] at hF
  repeat with_reducible first | refine wp_seq ?_ | refine nThen ?_
  refine' reg_all hF ?_ mixed (by kernel_rfl) ?_
  rotate_left
  · repeat (first | exact Line.nil | ((refine' Line.cons rfl (.run rfl rfl ?_) ?_); (any_goals exact cAssign rfl rfl); rotate_left))
  intro a w5 hF hb hN
  have hBs := hB.size
  replace hB := hB.trans (hb.mono hB.size)
  dsimp only [ext, Option.getD] at hF
  repeat with_reducible first | refine wp_seq ?_ | refine nThen ?_
  refine' reg_all hF ?_ mixed (by kernel_rfl) ?_
  rotate_left
  · repeat (first | exact Line.nil | ((refine' Line.cons rfl (.run rfl rfl ?_) ?_); (any_goals exact cAssign rfl rfl); rotate_left))
  intro a w6 hF hb hN
  have hBs := hB.size
  replace hB := hB.trans (hb.mono hB.size)
  dsimp only [ext, Option.getD] at hF
  repeat with_reducible first | refine nThen ?_ | refine wp_block ?_
  obtain ⟨v5, hv5, hF⟩ := hF.open (s := 5) rfl
  have k5 := pcs_pcsR Q _ _ hv5
  have hB0 := hB
  have hw6 := hB.size
  replace h02 := (Ty.rdB la).below h0 hB
  replace h12 := (Ty.rdB lb).below h1 hB
  replace hB := Below.refl w6.heap.size w6
  refine loop_ty (fun m a wr => ∃ (k s : Nat), k + m = Q.length ∧ s = f k ∧ Fr 94 [(0, Ty.ex v0), (1, Ty.ex v1), (5, Ty.ex v5), (6, Ty.ex (.int .i64 (s : Int))), (7, Ty.ex (.int .i64 (k : Int)))] a wr ∧ Below w6.heap.size w6 wr) Q.length ?_ ?_
  · exact ⟨0, 0, by omega, f0.symm, hF.keep [0, 1, 5, 6, 7], hB⟩
  clear hF hB
  rintro m a wr ⟨k, s, hk, hsf, hF, hB⟩
  have k5r := (Ty.pcsR Q).below k5 hB
  repeat with_reducible refine wp_seq ?_
  refine' reg_all hF ?_ mixed (by kernel_rfl) ?_
  rotate_left
  · repeat (first | exact Line.nil | ((refine' Line.cons rfl (.run rfl rfl ?_) ?_); (any_goals (first | exact cMove rfl rfl | exact cLenH rfl (.l rfl k5r) (pcsR_isSl Q) Try.underlying24 | exact cLss rfl rfl rfl)); rotate_left))
  intro a w7 hF hb hN
  have hBs := hB.size
  replace hB := hB.trans (hb.mono hB.size)
  dsimp only [ext, Option.getD] at hF
  repeat with_reducible refine nThen ?_
  refine cond_ty hF rfl (fun hlt => ?_) (fun hge => ?_)
  · have hlt : k < Q.length := by have := of_decide_eq_true hlt; omega
    have k5r := (Ty.pcsR Q).below k5 hB
    have g1 := f1 k hlt
    have g2 := f2 (k + 1)
    repeat with_reducible first | refine wp_seq ?_ | refine nThen ?_ | refine wp_skip ?_ | refine wp_block ?_
    refine' reg_all hF ?_ mixed (by kernel_rfl) ?_
    rotate_left
    · repeat (first | exact Line.nil | ((refine' Line.cons rfl (.run rfl rfl ?_) ?_); (any_goals (first | exact cMove rfl rfl | exact cAssign rfl rfl | exact cIdxQ rfl (.l rfl k5r) rfl Try.underlying24 sizePc hlt | exact cFldQ1 rfl (.t rfl) Try.underlying29 rfl sizeB1 | exact cLoadQB rfl (.t rfl) Try.underlying22 rfl | exact cLenH rfl (.t rfl) (rdB_isSl _) Try.underlying22 | exact cAdd (r := ((f (k + 1) : Nat) : Int)) rfl rfl rfl (by omega))); rotate_left))
    intro a w8 hF hb hN
    have hBs := hB.size
    replace hB := hB.trans (hb.mono hB.size)
    dsimp only [ext, Option.getD] at hF
    repeat with_reducible first | refine nThen ?_ | refine nBlk ?_
    refine' reg_all hF ?_ mixed (by kernel_rfl) ?_
    rotate_left
    · repeat (first | exact Line.nil | ((refine' Line.cons rfl (.run rfl rfl ?_) ?_); (any_goals (first | exact cMove rfl rfl | exact cAssign rfl rfl | exact cAdd (r := ((k + 1 : Nat) : Int)) rfl rfl rfl (by omega))); rotate_left))
    intro a w9 hF hb hN
    have hBs := hB.size
    replace hB := hB.trans (hb.mono hB.size)
    dsimp only [ext, Option.getD] at hF
    repeat with_reducible refine nThen ?_
    exact ⟨m - 1, by omega, k + 1, f (k + 1), by omega, rfl, hF.keep [0, 1, 5, 6, 7], hB⟩
  have hge : ¬ k < Q.length := by have := of_decide_eq_false hge; omega
  have hkQ : k = Q.length := by omega
  have hsn : s = la.length := by rw [hsf, hkQ, f3]
  have h02r := (Ty.rdB la).below h02 hB
  repeat with_reducible first | refine wp_seq ?_ | refine nThen ?_ | refine wp_exit ?_ | refine xThen ?_ | refine xHere ?_
  refine' reg_all hF ?_ mixed (by kernel_rfl) ?_
  rotate_left
  · repeat (first | exact Line.nil | ((refine' Line.cons rfl (.run rfl rfl ?_) ?_); (any_goals (first | exact cMove rfl rfl | exact cLenH rfl (.l rfl h02r) (rdB_isSl la) Try.underlying22 | exact OpOk.b (c := false) (cNeq rfl rfl rfl) (by simp [hsn]))); rotate_left))
  intro a w8 hF hb hN
  have hBs := hB.size
  replace hB := hB.trans (hb.mono hB.size)
  dsimp only [ext, Option.getD] at hF
  repeat with_reducible refine nThen ?_
  refine cond_f hF rfl ?_
  repeat with_reducible first | refine wp_seq ?_ | refine nThen ?_ | refine wp_skip ?_
  have k5r := (Ty.pcsR Q).below k5 hB
  by_cases hwh : ∀ q, Q.getLast? = some q → 128 ≤ q.2.length
  rotate_left
  · obtain ⟨n, hn⟩ : ∃ n, Q.length = n + 1 := by
      cases hQ : Q with
      | nil => exact absurd (fun q hq => by rw [hQ] at hq; cases hq) hwh
      | cons x l => exact ⟨l.length, rfl⟩
    have hlast := last_getD (Sm.zero, []) hn
    have hsh : (Q.getD n (Sm.zero, [])).2.length < 128 := by
      refine Nat.lt_of_not_le fun h => hwh fun q hq => ?_
      rw [hlast] at hq
      injection hq with hq
      rw [← hq]
      exact h
    refine' reg_all hF ?_ mixed (by kernel_rfl) ?_
    rotate_left
    · repeat (first | exact Line.nil | ((first | refine' Line.cons rfl (.run rfl rfl ?_) ?_ | refine' Line.cons rfl (.yes rfl rfl rfl rfl ?_) ?_); (any_goals (first | exact cMove rfl rfl | exact cLenH rfl (.l rfl k5r) (pcsR_isSl Q) Try.underlying24 | exact OpOk.b (c := true) (cGtr rfl rfl rfl) (decide_eq_true (by omega)) | exact cSub (r := ((n : Nat) : Int)) rfl rfl rfl (by omega) | exact cIdxQ (k := n) rfl (.l rfl k5r) rfl Try.underlying24 sizePc (by omega) | exact cFldQ1 rfl (.t rfl) Try.underlying29 rfl sizeB1 | exact cLoadQB rfl (.t rfl) Try.underlying22 rfl | exact cLenH rfl (.t rfl) (rdB_isSl _) Try.underlying22 | exact OpOk.b (c := true) (cLss rfl rfl rfl) (decide_eq_true (by omega)) | exact cPickT rfl rfl rfl)); rotate_left))
    intro a w9 hF hb hN
    have hBs := hB.size
    replace hB := hB.trans (hb.mono hB.size)
    dsimp only [ext, Option.getD] at hF
    repeat with_reducible refine nThen ?_
    refine cond_t hF rfl ?_
    repeat with_reducible refine wp_seq ?_
    refine' reg_all hF ?_ mixed (by kernel_rfl) ?_
    rotate_left
    · repeat (first | exact Line.nil | ((refine' Line.cons rfl (.run rfl rfl ?_) ?_); (any_goals exact cAssign rfl rfl); rotate_left))
    intro a w10 hF hb hN
    have hBs := hB.size
    replace hB := hB.trans (hb.mono hB.size)
    dsimp only [ext, Option.getD] at hF
    repeat with_reducible first | refine nThen ?_ | refine wp_ret ?_ | refine rThen ?_
    refine ret1 hF rfl rfl fun z hz => ?_
    exact ⟨by rw [show z = .bool true from hz], hB0.trans (hB.mono hw6)⟩
  have hQS := hQS hwh
  refine wp_cut (R := fun a w => Fr 94 [(0, Ty.ex v0), (1, Ty.ex v1), (5, Ty.ex v5), (54, Ty.ex (.bool false))] a w ∧ Below w6.heap.size w6 w) ?_ ?_
  · by_cases hQ0 : Q.length = 0
    · refine' reg_all hF ?_ mixed (by kernel_rfl) ?_
      rotate_left
      · repeat (first | exact Line.nil | (refine' Line.cons rfl (.no rfl rfl rfl rfl rfl rfl) ?_; rotate_left) | ((refine' Line.cons rfl (.run rfl rfl ?_) ?_); (any_goals (first | exact cMove rfl rfl | exact cLenH rfl (.l rfl k5r) (pcsR_isSl Q) Try.underlying24 | exact OpOk.b (c := false) (cGtr rfl rfl rfl) (decide_eq_false (by omega)) | exact cPickF rfl rfl rfl)); rotate_left))
      intro a w9 hF hb hN
      have hBs := hB.size
      replace hB := hB.trans (hb.mono hB.size)
      dsimp only [ext, Option.getD] at hF
      repeat with_reducible refine nThen ?_
      exact ⟨hF.keep [0, 1, 5, 54], hB⟩
    · obtain ⟨n, hn⟩ : ∃ n, Q.length = n + 1 := ⟨Q.length - 1, by omega⟩
      have hlast := hwh _ (last_getD (Sm.zero, []) hn)
      refine' reg_all hF ?_ mixed (by kernel_rfl) ?_
      rotate_left
      · repeat (first | exact Line.nil | ((first | refine' Line.cons rfl (.run rfl rfl ?_) ?_ | refine' Line.cons rfl (.yes rfl rfl rfl rfl ?_) ?_); (any_goals (first | exact cMove rfl rfl | exact cLenH rfl (.l rfl k5r) (pcsR_isSl Q) Try.underlying24 | exact OpOk.b (c := true) (cGtr rfl rfl rfl) (decide_eq_true (by omega)) | exact cSub (r := ((n : Nat) : Int)) rfl rfl rfl (by omega) | exact cIdxQ (k := n) rfl (.l rfl k5r) rfl Try.underlying24 sizePc (by omega) | exact cFldQ1 rfl (.t rfl) Try.underlying29 rfl sizeB1 | exact cLoadQB rfl (.t rfl) Try.underlying22 rfl | exact cLenH rfl (.t rfl) (rdB_isSl _) Try.underlying22 | exact OpOk.b (c := false) (cLss rfl rfl rfl) (decide_eq_false (by omega)) | exact cPickT rfl rfl rfl)); rotate_left))
      intro a w9 hF hb hN
      have hBs := hB.size
      replace hB := hB.trans (hb.mono hB.size)
      dsimp only [ext, Option.getD] at hF
      repeat with_reducible refine nThen ?_
      exact ⟨hF.keep [0, 1, 5, 54], hB⟩
  clear hF hB k5r h02r
  rintro a w10 ⟨hF, hB⟩
  refine cond_f hF rfl ?_
  repeat with_reducible first | refine wp_seq ?_ | refine nThen ?_ | refine wp_skip ?_
  have hw10 := hB.size
  refine wp_region_lit ?_
  refine' tlOp hF rfl rfl rfl ?_ ?_
  rotate_left
  · exact cBuild0 rfl Try.underlying22 infoU8
  intro a w11 hF hb
  have hBs := hB.size
  replace hB := hB.trans (hb.mono hB.size)
  try (refine wpList_nil ?_)
  obtain ⟨v55, ⟨S55, hseg, hS55⟩, hF⟩ := hF.open (s := 55) rfl
  have hS55 : ∀ y ∈ S55, w6.heap.size ≤ y := fun y hy => Nat.le_trans hw10 (hS55 y hy)
  refine' tlOp hF rfl rfl rfl ?_ ?_
  rotate_left
  · exact cMove rfl rfl
  intro a w12 hF hb
  have hBs := hB.size
  replace hB := hB.trans (hb.mono hB.size)
  try (refine wpList_nil ?_)
  replace hseg := hseg.below hb
  have h02r := (Ty.rdB la).below h02 hB
  refine tlAppend (Δ := [(1, Ty.ex v1), (5, Ty.ex v5)]) (n := 0) (m := la.length) (news := la.map bv) hF rfl rfl rfl rfl Try.underlying22 infoU8 rfl rfl hseg (.l rfl h02r) rdB_news (by simp) (bv_oneC _) (by simp [maxLen]; omega) (by omega) (hF.keep [1, 5]) rfl ?_
  intro a w13 v57 S57 hF hseg57 hk13 hS57
  have hb57 := own_next hB hS55 hS57
  replace hB := below_own hB hk13 hS55
  rw [Nat.zero_add, List.nil_append] at hseg57
  refine' tlOp hF rfl rfl rfl ?_ ?_
  rotate_left
  · exact cMove rfl rfl
  intro a w14 hF hb
  have hBs := hB.size
  replace hB := hB.trans (hb.mono hB.size)
  try (refine wpList_nil ?_)
  replace hseg57 := hseg57.below hb
  have h12r := (Ty.rdB lb).below h12 hB
  refine tlAppend (Δ := [(1, Ty.ex v1), (5, Ty.ex v5)]) (n := la.length) (m := lb.length) (news := lb.map bv) hF rfl rfl rfl rfl Try.underlying22 infoU8 rfl rfl hseg57 (.l rfl h12r) rdB_news (by simp) (bv_oneC _) (by simp [maxLen]; omega) (by omega) (hF.keep [1, 5]) rfl ?_
  intro a w15 v59 S59 hF hseg59 hk15 hS59
  replace hB := below_own hB hk15 hb57
  rw [← List.map_append, ← List.length_append] at hseg59
  have k59 := seg_rdB hseg59
  refine' tlOp hF rfl rfl rfl ?_ ?_
  rotate_left
  · exact cCallH1 rfl (.l rfl k59) hCS
  intro a w16 hF hb
  have hBs := hB.size
  replace hB := hB.trans (hb.mono hB.size)
  try (refine wpList_nil ?_)
  refine' tlOp hF rfl rfl rfl ?_ ?_
  rotate_left
  · exact cAssign rfl rfl
  intro a w17 hF hb
  have hBs := hB.size
  replace hB := hB.trans (hb.mono hB.size)
  try (refine wpList_nil ?_)
  repeat with_reducible first | refine wp_seq ?_ | refine nThen ?_
  refine' reg_all hF ?_ mixed (by kernel_rfl) ?_
  rotate_left
  · repeat (first | exact Line.nil | ((refine' Line.cons rfl (.run rfl rfl ?_) ?_); (any_goals exact cAssign rfl rfl); rotate_left))
  intro a w18 hF hb hN
  have hBs := hB.size
  replace hB := hB.trans (hb.mono hB.size)
  dsimp only [ext, Option.getD] at hF
  repeat with_reducible first | refine nThen ?_ | refine wp_block ?_
  obtain ⟨v8, hv8, hF⟩ := hF.open (s := 8) rfl
  have k8 := pcs_pcsR QS _ _ hv8
  have k5 := (Ty.pcsR Q).below k5 hB
  have h12 := (Ty.rdB lb).below h12 hB
  have hB0 := hB0.trans (hB.mono hw6)
  have hw18 := hB0.size
  clear hseg57 hseg59 hseg k59 h12r h02r
  replace hB := Below.refl w18.heap.size w18
  refine loop_ty (fun m a wr => ∃ (k : Nat), k + m = Q.length ∧ Fr 94 [(1, Ty.ex v1), (5, Ty.ex v5), (8, Ty.ex v8), (9, Ty.ex (.int .i64 (k : Int)))] a wr ∧ Below w18.heap.size w18 wr) Q.length ?_ ?_
  · exact ⟨0, by omega, hF.keep [1, 5, 8, 9], hB⟩
  clear hF hB
  rintro m a wr ⟨k, hk, hF, hB⟩
  have k5r := (Ty.pcsR Q).below k5 hB
  repeat with_reducible refine wp_seq ?_
  refine' reg_all hF ?_ mixed (by kernel_rfl) ?_
  rotate_left
  · repeat (first | exact Line.nil | ((refine' Line.cons rfl (.run rfl rfl ?_) ?_); (any_goals (first | exact cMove rfl rfl | exact cLenH rfl (.l rfl k5r) (pcsR_isSl Q) Try.underlying24 | exact cLss rfl rfl rfl)); rotate_left))
  intro a w19 hF hb hN
  have hBs := hB.size
  replace hB := hB.trans (hb.mono hB.size)
  dsimp only [ext, Option.getD] at hF
  repeat with_reducible refine nThen ?_
  refine cond_ty hF rfl (fun hlt => ?_) (fun hge => ?_)
  · have hlt : k < Q.length := by have := of_decide_eq_true hlt; omega
    have hlS : k < QS.length := by rw [hQS, List.length_append]; omega
    have e : (QS.getD k (Sm.zero, [])).1 = (Q.getD k (Sm.zero, [])).1 := by rw [hQS, getD_app _ hlt]
    have k5r := (Ty.pcsR Q).below k5 hB
    have k8r := (Ty.pcsR QS).below k8 hB
    repeat with_reducible first | refine wp_seq ?_ | refine nThen ?_ | refine wp_skip ?_ | refine wp_block ?_
    refine' reg_all hF ?_ mixed (by kernel_rfl) ?_
    rotate_left
    · repeat (first | exact Line.nil | ((first | refine' Line.cons rfl (.run rfl rfl ?_) ?_ | refine' Line.cons rfl (.yes rfl rfl rfl rfl ?_) ?_); (any_goals (first | exact cMove rfl rfl | exact cLenH rfl (.l rfl k8r) (pcsR_isSl QS) Try.underlying24 | exact OpOk.b (c := false) (cGeq rfl rfl rfl) (decide_eq_false (by omega)) | exact cIdxQ rfl (.l rfl k5r) rfl Try.underlying24 sizePc hlt | exact cIdxQ rfl (.l rfl k8r) rfl Try.underlying24 sizePc hlS | exact cFldQ0 rfl (.t rfl) Try.underlying29 rfl sizeS | exact cLoadSumR rfl (.t rfl) Try.underlying27 sizeS | exact OpOk.b (c := false) (cNeqAgg rfl rfl rfl guardS (neqS _ _)) (by rw [decide_eq_true e]; rfl) | exact cPickF rfl rfl rfl)); rotate_left))
    intro a w20 hF hb hN
    have hBs := hB.size
    replace hB := hB.trans (hb.mono hB.size)
    dsimp only [ext, Option.getD] at hF
    repeat with_reducible refine nThen ?_
    refine cond_f hF rfl ?_
    repeat with_reducible first | refine nThen ?_ | refine nBlk ?_ | refine wp_skip ?_
    refine' reg_all hF ?_ mixed (by kernel_rfl) ?_
    rotate_left
    · repeat (first | exact Line.nil | ((refine' Line.cons rfl (.run rfl rfl ?_) ?_); (any_goals (first | exact cMove rfl rfl | exact cAssign rfl rfl | exact cAdd (r := ((k + 1 : Nat) : Int)) rfl rfl rfl (by omega))); rotate_left))
    intro a w21 hF hb hN
    have hBs := hB.size
    replace hB := hB.trans (hb.mono hB.size)
    dsimp only [ext, Option.getD] at hF
    repeat with_reducible refine nThen ?_
    exact ⟨m - 1, by omega, k + 1, by omega, hF.keep [1, 5, 8, 9], hB⟩
  have h12r := (Ty.rdB lb).below h12 hB
  have hlen : QS.length = Q.length + R.length := by rw [hQS, List.length_append]
  repeat with_reducible first | refine wp_seq ?_ | refine nThen ?_ | refine wp_exit ?_ | refine xThen ?_ | refine xHere ?_
  refine' reg_all hF ?_ mixed (by kernel_rfl) ?_
  rotate_left
  · repeat (first | exact Line.nil | ((refine' Line.cons rfl (.run rfl rfl ?_) ?_); (any_goals (first | exact cMove rfl rfl | exact cAssign rfl rfl | exact cCallH1 rfl (.l rfl h12r) hCb)); rotate_left))
  intro a w20 hF hb hN
  have hBs := hB.size
  replace hB := hB.trans (hb.mono hB.size)
  dsimp only [ext, Option.getD] at hF
  repeat with_reducible first | refine wp_seq ?_ | refine nThen ?_
  have k5r := (Ty.pcsR Q).below k5 hB
  have k8r := (Ty.pcsR QS).below k8 hB
  refine' reg_all hF ?_ mixed (by kernel_rfl) ?_
  rotate_left
  · repeat (first | exact Line.nil | ((refine' Line.cons rfl (.run rfl rfl ?_) ?_); (any_goals (first | exact cMove rfl rfl | exact cAssign rfl rfl | exact cLenH rfl (.l rfl k8r) (pcsR_isSl QS) Try.underlying24 | exact cLenH rfl (.l rfl k5r) (pcsR_isSl Q) Try.underlying24 | exact cLenH rfl (.t rfl) (pcs_isSl R) Try.underlying24 | exact cAdd (r := ((Q.length + R.length : Nat) : Int)) rfl rfl rfl (by omega) | exact OpOk.b (c := true) (cEql rfl rfl rfl) (decide_eq_true (by omega)))); rotate_left))
  intro a w21 hF hb hN
  have hBs := hB.size
  replace hB := hB.trans (hb.mono hB.size)
  dsimp only [ext, Option.getD] at hF
  repeat with_reducible first | refine nThen ?_ | refine wp_ret ?_
  refine ret1 hF rfl rfl fun z hz => ?_
  exact ⟨by rw [show z = .bool true from hz], hB0.trans (hB.mono hw18)⟩
end Go.Proofs.Ytbjlmhbpcopfbaa

/- From a row's reading of an argument to what a walk takes: slices of bytes; whole numbers. -/
namespace Go.Proofs.Ytbjlmhbpcopfbaa
open Go.RowKit Go.ChangeShapes Go.WideShapes

theorem nat_of_wf {k : IntKind} {n : Int} (h : (Lit.int k n).wf = true) : k.min ≤ n ∧ n ≤ k.max := by
  simpa [Lit.wf] using h

end Go.Proofs.Ytbjlmhbpcopfbaa

/- From a row's reading of an argument to what a walk takes: whole numbers in a slice; sums of thirty-two bytes. -/
namespace Go.Proofs.Ytbjlmhbpcopfbaa
open Go.RowKit Go.ChangeShapes Go.WideShapes

end Go.Proofs.Ytbjlmhbpcopfbaa

/- An argument that is a row of thirty-two bytes each, as a row of sums. -/
namespace Go.Proofs.Ytbjlmhbpcopfbaa
open Go.RowKit

end Go.Proofs.Ytbjlmhbpcopfbaa

/- An argument that is a row of bytes, of rows of bytes, of pieces. -/
namespace Go.Proofs.Ytbjlmhbpcopfbaa
open Go.RowKit

section
variable {H : Type} {enc : TypeId × Value → H} {P : Program} {W : World} {base : Nat} {sp : Nat → Bool} {held : Bool}
open Go.ChangeShapes Go.WideShapes in
theorem trod_rdB {t e : TypeId} {fuel : Nat} {v : Value} {x : DataW H × List MemPlace} (ht : P.underlying t = some (.slice e)) (he : P.underlying e = some (.int .u8)) (hc : P.cellsOf e = 1) (h : DataW.trod enc P W base sp held fuel t [v] = some x) : ∃ l : List Nat, (Ty.rdB l).p W v ∧ ∀ y ∈ l, y < 256 := by
  rcases open_ints ht he hc h with ⟨hcs, _⟩ | ⟨x, l, c, zs, hcs, _, hl, hm, hz, _, hcell, hwz⟩
  · injection hcs with hcs
    subst hcs
    exact ⟨[], ⟨none, 0, rfl, Nat.le_refl _, Nat.zero_le _, fun _ => rfl, Rd.nil _ _⟩, by simp⟩
  · injection hcs with hcs
    subst hcs
    have hlz : l ≤ zs.length := by rw [hz]; split <;> omega
    have hb : ∀ n ∈ zs, 0 ≤ n ∧ n ≤ 255 := fun n hn => by
      have := nat_of_wf (hwz n hn)
      simpa [IntKind.min, IntKind.max, IntKind.signed, IntKind.bits] using this
    have hlen : ((zs.take l).map Int.toNat).length = l := by simp; omega
    refine ⟨(zs.take l).map Int.toNat, ⟨some x, c, by rw [hlen], by rw [hlen]; exact hl, hm, fun h => (by cases h), fun j v hv => ⟨x, rfl, ?_⟩⟩, fun y hy => ?_⟩
    · rw [List.map_map, List.getElem?_map, List.getElem?_take] at hv
      split at hv
      · rename_i hj
        have hjz : j < zs.length := by omega
        rw [List.getElem?_eq_getElem hjz] at hv
        simp only [Option.map_some, Function.comp, Option.some.injEq, bv] at hv
        rw [hcell j hjz, ← hv]
        have := hb _ (List.getElem_mem hjz)
        simp [List.getD, List.getElem?_eq_getElem hjz]
        omega
      · simp at hv
    · obtain ⟨z, hz, rfl⟩ := List.mem_map.1 hy
      have := hb z (List.mem_of_mem_take hz)
      omega
end
section
variable {H : Type} {enc : TypeId × Value → H} {P : Program} {W : World} {sp : Nat → Bool}
open Go.ChangeShapes Go.WideShapes in
theorem row_rdB {t e : TypeId} {a : Option Addr} {len cap : Nat} {d : DataW H} {ps : List MemPlace} (ht : P.underlying t = some (.slice e)) (he : P.underlying e = some (.int .u8)) (hc : P.cellsOf e = 1) (h : DataW.Trod enc P W 0 sp true t (.slice a len cap) d ps) : ∃ l : List Nat, (Ty.rdB l).p W (.slice a len cap) ∧ ∀ y ∈ l, y < 256 := by
  obtain ⟨fuel, hf⟩ := h
  exact trod_rdB ht he hc (v := .slice a len cap) (by simpa [Value.cells] using hf)
/-- A row of byte slices that is read. -/
def Ty.blsR (Ps : List (List Nat)) : Ty := ⟨fun w v => ∃ vs, Bls w vs Ps ∧ (Ty.rd Ps.length vs).p w v, fun _ => true, fun ⟨vs, h1, h2⟩ k hA => ⟨vs, ⟨h1.1, fun j hj => (Ty.rdB _).st (h1.2 j hj) k hA⟩, (Ty.rd _ _).st h2 k hA⟩⟩
theorem blsR_isSl (Ps : List (List Nat)) : IsSl (Ty.blsR Ps) Ps.length := fun _ _ ⟨_, _, A, c, h, _⟩ => ⟨A, c, h⟩
open Go.ChangeShapes Go.WideShapes Go.Deep in
theorem row_bls {t b e : TypeId} {a : Option Addr} {len cap : Nat} {d : DataW H} {ps : List MemPlace} (ht : P.underlying t = some (.slice b)) (hcb : P.cellsOf b = 1) (hb : P.underlying b = some (.slice e)) (he : P.underlying e = some (.int .u8)) (hc : P.cellsOf e = 1)
    (h : DataW.Trod enc P W 0 sp true t (.slice a len cap) d ps) : ∃ Ps : List (List Nat), (Ty.blsR Ps).p W (.slice a len cap) ∧ ∀ p ∈ Ps, ∀ y ∈ p, y < 256 := by
  obtain ⟨fuel, hf⟩ := h
  rcases open_slice1 ht hcb hf with ⟨hcs, _⟩ | ⟨x, l, c, m, n, V, D, Pl, hcs, _, hl, hm, hmm, _, hi⟩
  · simp [Value.cells] at hcs
    obtain ⟨rfl, rfl, rfl⟩ := hcs
    exact ⟨[], ⟨[], ⟨rfl, fun k h => by simp at h⟩, ⟨none, 0, rfl, Nat.zero_le _, fun _ => rfl, Rd.nil _ _⟩⟩, by simp⟩
  · simp [Value.cells] at hcs
    obtain ⟨rfl, rfl, rfl⟩ := hcs
    have hlm : len ≤ m := by rw [hmm]; split <;> omega
    obtain ⟨f, hf2⟩ := choose_lt (n := len) (p := fun i l => (Ty.rdB l).p W (V i) ∧ ∀ y ∈ l, y < 256) fun i hi' => trod_rdB hb he hc (hi i (by omega)).2
    have hlen : ((List.range len).map f).length = len := by simp
    refine ⟨(List.range len).map f, ⟨(List.range len).map V, ⟨by simp, fun k hk => ?_⟩, some x, cap, by rw [hlen], by rw [hlen]; omega, fun h => (by cases h), fun j v hv => ⟨x, rfl, ?_⟩⟩, fun p hp => ?_⟩
    · rw [hlen] at hk
      have e1 : ((List.range len).map f).getD k [] = f k := by simp [List.getD, hk]
      have e2 : ((List.range len).map V).getD k nilB = V k := by simp [List.getD, hk]
      rw [e1, e2]
      exact (hf2 k hk).1
    · have hj : j < len := by have := (List.getElem?_eq_some_iff.1 hv).1; simpa using this
      have e2 : ((List.range len).map V)[j]? = some (V j) := by simp [hj]
      rw [e2] at hv
      rw [(hi j (by omega)).1, hv]
    · obtain ⟨i, hi', rfl⟩ := List.mem_map.1 hp
      exact (hf2 i (List.mem_range.1 hi')).2
end
end Go.Proofs.Ytbjlmhbpcopfbaa
