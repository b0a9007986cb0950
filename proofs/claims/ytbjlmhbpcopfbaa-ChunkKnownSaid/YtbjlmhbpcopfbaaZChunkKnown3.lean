/- Joined: ChunkF, ChunkK, ChunkW. -/
import Derived.Test.YtbjlmhbpcopfbaaZChunkKnown2
/- Chunks: chunk.All; the walk of ChunkAll. -/
namespace Go.Proofs.Ytbjlmhbpcopfbaa
open Go.RowKit

def nmsB (b : List Nat) : List Sm := nmsQ (cutQ b)
/-- All names of all. -/
def allN (Ps : List (List Nat)) : List Sm := (Ps.map nmsB).flatten
theorem nmsB_len (b : List Nat) : (nmsB b).length = (pcsB b).length := by unfold nmsB nmsQ cutQ; rw [List.length_map, List.length_map]
theorem allN_succ (Ps : List (List Nat)) {k : Nat} (h : k < Ps.length) : allN (Ps.take (k + 1)) = allN (Ps.take k) ++ nmsB (Ps.getD k []) := by
  unfold allN
  rw [takeB_snoc Ps h, List.map_append, List.flatten_append]
  simp
theorem vs_drop {vs : List Value} {k : Nat} (h : k < vs.length) : vs.drop (k * 1) = vs.getD k nilB :: vs.drop (k + 1) := by
  rw [Nat.mul_one, List.drop_eq_getElem_cons h]
  simp [List.getD, List.getElem?_eq_getElem h]
theorem sizeBs : (Try.prog.info? 22).map (·.size) = some 1 := by kernel_rfl
set_option maxRecDepth 100000 in
set_option maxHeartbeats 2000000 in
theorem call_ty (Ps : List (List Nat)) (h4 : ∀ p ∈ Ps, p.length ≤ 4000) (hl : Ps.length ≤ 100) (hx : ∀ p ∈ Ps, ∀ x ∈ p, x < 256) : Fn1 Try.prog 20 (Ty.blsR Ps) (Ty.sums 27 (setL (allN Ps))) := by
  refine ⟨fun args w => by kernel_rfl, fun w v hv => ?_⟩
  refine enter_ty 19 [Ty.ex v] Try.func20 rfl (by kernel_rfl) ⟨rfl, trivial⟩ fun a hF => ?_
  have hB := Below.refl w.heap.size w
  repeat with_reducible refine wp_seq ?_
  refine' reg_all hF ?_ mixed (by kernel_rfl) ?_
  rotate_left
  · repeat (first | exact Line.nil | ((refine' Line.cons rfl (.run rfl rfl ?_) ?_); (any_goals exact cAssign rfl rfl); rotate_left))
  intro a w1 hF hb hN
  have hBs := hB.size
  replace hB := hB.trans (hb.mono hB.size)
  dsimp only [ext, Option.getD] at hF
  repeat with_reducible first | refine wp_seq ?_ | refine nThen ?_
  refine' reg_all hF ?_ mixed (by kernel_rfl) ?_
  rotate_left
  · repeat (first | exact Line.nil | ((refine' Line.cons rfl (.run rfl rfl ?_) ?_); (any_goals exact cAssign rfl rfl); rotate_left))
  intro a w2 hF hb hN
  have hBs := hB.size
  replace hB := hB.trans (hb.mono hB.size)
  dsimp only [ext, Option.getD] at hF
  repeat with_reducible first | refine wp_seq ?_ | refine nThen ?_
  have hv2 := (Ty.blsR Ps).below hv hB
  refine' reg_all hF ?_ mixed (by kernel_rfl) ?_
  rotate_left
  · repeat (first | exact Line.nil | ((refine' Line.cons rfl (.run rfl rfl ?_) ?_); (any_goals (first | exact cMove rfl rfl | exact cLenH rfl (.l rfl hv2) (blsR_isSl Ps) Try.underlying57)); rotate_left))
  intro a w3 hF hb hN
  have hBs := hB.size
  replace hB := hB.trans (hb.mono hB.size)
  dsimp only [ext, Option.getD] at hF
  repeat with_reducible first | refine nThen ?_ | refine wp_block ?_
  have hv3 := (Ty.blsR Ps).below hv hB
  obtain ⟨vs, hbl, hrd⟩ := hv3
  have hw3 := hB.size
  have hB0 := hB
  replace hB := Below.refl w3.heap.size w3
  refine loop_ty (fun m a wr => ∃ (k : Nat) (u : Value) (S : List Nat) (A : List Sm), k + m = Ps.length ∧ A = allN (Ps.take k) ∧ A.length ≤ 4000 * k ∧ Fr 19 [(3, Ty.ex u), (6, Ty.ex v), (7, Ty.ex (.int .i64 (Ps.length : Int))), (8, Ty.ex (.int .i64 (k : Int)))] a wr ∧ Below w3.heap.size w3 wr ∧ Seg wr 27 32 u A.length (flat A) S ∧ ∀ y ∈ S, w3.heap.size ≤ y) Ps.length ?_ ?_
  · exact ⟨0, _, [], [], by omega, rfl, by simp, hF.keep [3, 6, 7, 8], hB, Seg.nil _ _ _, by simp⟩
  clear hF hB
  rintro m a wr ⟨k, u, S, A, hk, hA, hAl, hF, hB, hseg, hS⟩
  repeat with_reducible refine wp_seq ?_
  refine' reg_all hF ?_ mixed (by kernel_rfl) ?_
  rotate_left
  · repeat (first | exact Line.nil | ((refine' Line.cons rfl (.run rfl rfl ?_) ?_); (any_goals exact cLss rfl rfl rfl); rotate_left))
  intro a w4 hF hb hN
  have hBs := hB.size
  replace hB := hB.trans (hb.mono hB.size)
  dsimp only [ext, Option.getD] at hF
  repeat with_reducible first | refine wp_seq ?_ | refine nThen ?_
  replace hseg := hseg.below hb
  refine cond_ty hF rfl (fun hlt => ?_) (fun hge => ?_)
  rotate_left
  · have hge : ¬ k < Ps.length := by have := of_decide_eq_false hge; omega
    have hkP : k = Ps.length := by omega
    rw [hkP, List.take_length] at hA
    have hO := of_ty A (by omega)
    rw [hA] at hO
    have hs : (Ty.sums 27 (allN Ps)).p w4 u := by rw [← hA]; exact hseg.sl
    repeat with_reducible first | refine wp_seq ?_ | refine nThen ?_ | refine wp_exit ?_ | refine xThen ?_ | refine xHere ?_
    refine' reg_all hF ?_ mixed (by kernel_rfl) ?_
    rotate_left
    · repeat (first | exact Line.nil | ((refine' Line.cons rfl (.run rfl rfl ?_) ?_); (any_goals (first | exact cMove rfl rfl | exact cAssign rfl rfl | exact cCallS1 rfl (.l rfl hs) hO)); rotate_left))
    intro a w5 hF hb hN
    have hBs := hB.size
    replace hB := hB.trans (hb.mono hB.size)
    dsimp only [ext, Option.getD] at hF
    repeat with_reducible first | refine nThen ?_ | refine wp_ret ?_
    refine ret1 hF rfl rfl fun z hz => ?_
    exact ⟨z, rfl, seg_sl _ _ hz, hB0.trans (hB.mono hw3)⟩
  have hlt : k < Ps.length := by have := of_decide_eq_true hlt; omega
  have hts := allN_succ Ps hlt
  have hpk := hbl.2 k hlt
  have hmem : Ps.getD k [] ∈ Ps := by rw [List.getD_eq_getElem?_getD, List.getElem?_eq_getElem hlt]; exact List.getElem_mem hlt
  have hp4 := h4 _ hmem
  have hp256 := hx _ hmem
  have hvk : k < vs.length := by rw [hbl.1]; exact hlt
  have hvd := vs_drop hvk
  generalize Ps.getD k [] = p at *
  generalize vs.getD k nilB = vk at *
  have hNm := names_ty p hp4 hp256
  have hnl : (nmsB p).length ≤ 4000 := by rw [nmsB_len]; exact Nat.le_trans (pcsB_len p) hp4
  have eN : nmsQ (cutQ p) = nmsB p := rfl
  rw [eN] at hNm
  generalize nmsB p = X at *
  have hrd4 := (Ty.rd _ _).below hrd hB
  repeat with_reducible first | refine wp_seq ?_ | refine nThen ?_ | refine wp_skip ?_ | refine wp_block ?_
  refine' reg_all hF ?_ mixed (by kernel_rfl) ?_
  rotate_left
  · repeat (first | exact Line.nil | ((refine' Line.cons rfl (.run rfl rfl ?_) ?_); (any_goals (first | exact cAssign rfl rfl | exact cIndexR (k := k) (sz := 1) rfl (.l rfl hrd4) rfl Try.underlying57 sizeBs hlt (by rw [Nat.mul_one]; exact hvk) | exact cLoad1 (u := vk) rfl (Has.c (.t rfl) (fun W v h => by rw [hvd] at h; exact h)) (pts_atR _) Try.underlying22 rfl)); rotate_left))
  intro a w5 hF hb hN
  have hBs := hB.size
  replace hB := hB.trans (hb.mono hB.size)
  dsimp only [ext, Option.getD] at hF
  repeat with_reducible refine nThen ?_
  replace hseg := hseg.below hb
  have hpv := (Ty.rdB p).below hpk hB
  refine' region_ty 3 mixed (by kernel_rfl) hF ?_ ?_
  rotate_left
  · simp only [List.take_succ_cons, List.take_zero]
    repeat (first | exact Line.nil | ((refine' Line.cons rfl (.run rfl rfl ?_) ?_); (any_goals (first | exact cMove rfl rfl | exact cCallH1 rfl (.l rfl hpv) hNm)); rotate_left))
  intro a w6 hF hb hN
  have hBs := hB.size
  replace hB := hB.trans (hb.mono hB.size)
  simp only [List.take_succ_cons, List.take_zero, List.drop_succ_cons, List.drop_zero] at hF hN ⊢
  dsimp only [ext, Option.getD] at hF
  replace hseg := hseg.below hb
  refine tlAppend (Δ := [(6, Ty.ex v), (7, Ty.ex (.int .i64 (Ps.length : Int))), (8, Ty.ex (.int .i64 (k : Int)))]) (n := A.length) (m := X.length) (news := flat X) hF rfl rfl rfl rfl Try.underlying35 infoS zero32_size rfl hseg (.t rfl) sl_news (flat_len _) flat_one' (by simp [maxLen]; omega) (by omega) (hF.keep [6, 7, 8]) rfl ?_
  intro a w7 u' S' hF hseg' hk7 hS'
  have hbS : ∀ y ∈ S', w3.heap.size ≤ y := own_next hB hS hS'
  replace hB := below_own hB hk7 hS
  rw [← flat_append, ← List.length_append] at hseg'
  refine' tlOp hF rfl rfl rfl ?_ ?_
  rotate_left
  · exact cAssign rfl rfl
  intro a w8 hF hb
  have hBs := hB.size
  replace hB := hB.trans (hb.mono hB.size)
  try (refine wpList_nil ?_)
  repeat with_reducible first | refine nThen ?_ | refine nBlk ?_
  replace hseg' := hseg'.below hb
  refine' reg_all hF ?_ mixed (by kernel_rfl) ?_
  rotate_left
  · repeat (first | exact Line.nil | ((refine' Line.cons rfl (.run rfl rfl ?_) ?_); (any_goals (first | exact cMove rfl rfl | exact cAdd (r := ((k + 1 : Nat) : Int)) rfl rfl rfl (by omega))); rotate_left))
  intro a w9 hF hb hN
  have hBs := hB.size
  replace hB := hB.trans (hb.mono hB.size)
  dsimp only [ext, Option.getD] at hF
  repeat with_reducible refine nThen ?_
  exact ⟨m - 1, by omega, k + 1, u', S', A ++ X, by omega, by rw [hts, hA], by rw [List.length_append]; omega, hF.keep [3, 6, 7, 8], hB, hseg'.below hb, hbS⟩
end Go.Proofs.Ytbjlmhbpcopfbaa

/- Chunks: the walk of ChunkKnown. -/
namespace Go.Proofs.Ytbjlmhbpcopfbaa
open Go.RowKit

section
variable {P : Program} {ops : Array Oper} {Q : Exit → Act → World → Prop} {rest : List Oper} {o : Oper} {a : Act} {w w0 : World} {N : Nat} {Γ : Ctx}
theorem cAllocV {t : TypeId} {z : Array Value} (ho : o.op = .alloc t) (hz : ∀ w : World, (Instr.alloc t true (.tuple #[])).run P w = .ok (.pointer (some ⟨w.heap.size, 0, none⟩)) (w.alloc (.cells z t))) : OpOk P w0 Γ o (Ty.var w0 t z) := fun _ w _ _ hb _ hK =>
  wp_new ho (hz w) (hK _ _ ⟨_, rfl, hb.size, Blk.new w _ _⟩ ((Keeps.refl [] w).alloc _).below)
/-- What hangs on no world. -/
def OTy.fix (τ : Ty) (h : ∀ w w' v, τ.p w v → τ.p w' v) : OTy := ⟨τ, fun w v S => τ.p w v ∧ S = [], fun h => h.1, fun {w w' v _ _} hq _ _ => ⟨h w w' v hq.1, hq.2⟩, fun hq b hb => by rw [hq.2] at hb; cases hb⟩
theorem oFix {τ : Ty} (hf : ∀ w w' v, τ.p w v → τ.p w' v) (h : OpOk P w0 Γ o τ) : OpO P w0 Γ o (OTy.fix τ hf) := fun a w K Q hb hs hK => h a w K Q hb hs fun u w' h1 h2 => hK u w' [] ⟨h1, rfl⟩ (by simp) h2
theorem has_pcs {x : Operand} {L : List (Sm × Value)} {Q : List (Sm × List Nat)} {n : Nat} {xs : List Value} {e : TypeId} (h : OpT Γ x (Ty.sl e n xs)) (hx : xs = flatQ L) (hn : n = Q.length) (hP : Pcr w0 L Q) : Has w0 Γ x (Ty.pcsR Q) := ⟨_, h, fun w v hb hv => by subst hx hn; exact ⟨L, hP.below hb, reads_sl _ _ _ _ _ hv⟩⟩
theorem has_pcsS {x : Operand} {L : List (Sm × Value)} {Q : List (Sm × List Nat)} {n : Nat} {xs : List Value} {e : TypeId} {sz : Nat} {w1 : World} (h : OpT Γ x (Ty.seg w1 e sz n xs)) (hx : xs = flatQ L) (hn : n = Q.length) (hP : Pcr w0 L Q) : Has w0 Γ x (Ty.pcsR Q) := ⟨_, h, fun w v hb hv => by subst hx hn; exact ⟨L, hP.below hb, reads_sl _ _ _ _ _ (seg_sl _ _ hv)⟩⟩
theorem has_sumsS {x : Operand} {L : List Sm} {n : Nat} {xs : List Value} {e : TypeId} {sz : Nat} {w1 : World} (h : OpT Γ x (Ty.seg w1 e sz n xs)) (hx : xs = flat L) (hn : n = L.length) : Has w0 Γ x (Ty.sums e L) := ⟨_, h, fun w v _ hv => by subst hx hn; exact seg_sl _ _ hv⟩
theorem partsT3 {t : TypeId} {n m m' m2 : Nat} {x y z : Operand} {τ σ υ : Ty} (ho : o.op = .buildSlice t n #[(0, x), (1, y), (2, z)]) (hx : Has w0 Γ x τ) (hy : Has w0 Γ y σ) (hz : Has w0 Γ z υ) (h1 : IsSl τ m) (h1' : IsSl σ m') (h2' : IsSl υ m2) : ∀ (a : Act) (w : World), Below w0.heap.size w0 w → SeesO Γ o a w → ∃ vs : List Value, ((#[(0, x), (1, y), (2, z)] : Array (Nat × Operand)).map fun (i, x) => (i, a.eval x)) = (vs.zipIdx.map fun p => (p.2, p.1)).toArray ∧ All2 w vs [τ, σ, υ] ∧ ∀ v ∈ vs, v.cells = #[v] := fun a w hb hs => by
  obtain ⟨u, h2, h3⟩ := hx.see hs (by simp [ho, Op.operands]) hb
  obtain ⟨A, c, rfl⟩ := h1 w u h3
  obtain ⟨u', h4, h5⟩ := hy.see hs (by simp [ho, Op.operands]) hb
  obtain ⟨A', c', rfl⟩ := h1' w u' h5
  obtain ⟨u2, h6, h7⟩ := hz.see hs (by simp [ho, Op.operands]) hb
  obtain ⟨A2, c2, rfl⟩ := h2' w u2 h7
  exact ⟨[.slice A m c, .slice A' m' c', .slice A2 m2 c2], by simp [h2, h4, h6], ⟨h3, h5, h7, trivial⟩, by simp [Value.cells]⟩
end
/-- A slice of slices that are read, as a row of bytes. -/
theorem slT_blsP {e : TypeId} (Ps : List (List Nat)) (hP : Ps.length ≤ maxLen) : ∀ w v, (Ty.slT e Ps.length (Ps.map Ty.rdB)).p w v → (Ty.blsR Ps).p w v := fun w v h => by
  obtain ⟨A, c, rfl, h2, h3, h4, h5⟩ := h
  cases hPs : Ps with
  | nil => subst hPs; exact ⟨[], ⟨rfl, fun k h => by simp at h⟩, A, c, rfl, Nat.zero_le _, fun _ => rfl, fun j u hu => by simp at hu⟩
  | cons p0 r =>
    rw [← hPs]
    have hpos : 0 < Ps.length := by rw [hPs]; simp
    obtain ⟨g, off, cs, fr, u, rfl, h6, h7, h8⟩ := h5 0 (Ty.rdB (Ps[0])) (by simp [hpos])
    have hel : ∀ j, (hj : j < Ps.length) → ∃ u, cs[off + j]? = some u ∧ (Ty.rdB Ps[j]).p w u := fun j hj => by
      obtain ⟨g', off', cs', fr', u', e2, h6', h7', h8'⟩ := h5 j (Ty.rdB Ps[j]) (by simp [hj])
      injection e2 with e2
      injection e2 with e2 e3
      subst e2 e3
      rw [h6] at h6'
      injection h6' with h6'
      injection h6' with h6'
      subst h6'
      exact ⟨u', h7', h8'⟩
    refine ⟨(List.range Ps.length).map fun j => (cs[off + j]?).getD nilB, ⟨by simp, fun k hk => ?_⟩, _, c, rfl, hP, fun h => (by cases h), fun j z hz => ⟨_, rfl, ?_⟩⟩
    · obtain ⟨u', h9, h10⟩ := hel k hk
      have e1 : Ps.getD k [] = Ps[k] := by simp [List.getD, List.getElem?_eq_getElem hk]
      have e2 : ((List.range Ps.length).map fun j => (cs[off + j]?).getD nilB).getD k nilB = u' := by simp [List.getD, hk, h9]
      rw [e1, e2]
      exact h10
    · have hj : j < Ps.length := by have := (List.getElem?_eq_some_iff.1 hz).1; simpa using this
      obtain ⟨u', h9, _⟩ := hel j hj
      have e2 : ((List.range Ps.length).map fun j => (cs[off + j]?).getD nilB)[j]? = some u' := by simp [hj, h9]
      rw [e2] at hz
      rw [Addr.add_lit, cell_of_row w g (off + j) cs e fr h6, h9]
      exact hz
theorem newsPc2 (x y : Sm) (v u : Value) : (([Value.agg (pcA x v), .agg (pcA y u)]).map fun v => v.cells.toList).flatten = flatQ [(x, v), (y, u)] := by
  have e1 : (Value.agg (pcA x v)).cells.toList = x.enc ++ [v] := pcA_list x v
  have e2 : (Value.agg (pcA y u)).cells.toList = y.enc ++ [u] := pcA_list y u
  rw [List.map_cons, List.map_cons, List.map_nil, e1, e2]
  rfl
theorem newsS2 (x y : Sm) : (([Value.agg (u8s x.l), .agg (u8s y.l)]).map fun v => v.cells.toList).flatten = flat [x, y] := by
  have e1 : (Value.agg (u8s x.l)).cells.toList = x.enc := u8s_list _
  have e2 : (Value.agg (u8s y.l)).cells.toList = y.enc := u8s_list _
  rw [List.map_cons, List.map_cons, List.map_nil, e1, e2]
  rfl
theorem pcr1 {w : World} {x : Sm} {v : Value} {b : List Nat} (h : (Ty.rdB b).p w v) : Pcr w [(x, v)] [(x, b)] := (Pcr.nil w).snoc h
theorem pcr2 {w : World} {x y : Sm} {v u : Value} {b c : List Nat} (h : (Ty.rdB b).p w v) (g : (Ty.rdB c).p w u) : Pcr w [(x, v), (y, u)] [(x, b), (y, c)] := (pcr1 h).snoc g
theorem pcsB_one (c : Nat) : pcsB [c] = [[c]] := by
  have h := fP_f [c] (by simp)
  have e : fP [c] = 1 := by simp at h; omega
  rw [pcsB_step [c] (by simp), e]
  simp [pcsB_nil]
theorem nmsB_one (c : Nat) : nmsB [c] = [shaS [c]] := by
  unfold nmsB nmsQ cutQ
  rw [pcsB_one]
  rfl
theorem allN_aab (a b : Nat) : allN [[a], [a], [b]] = [shaS [a], shaS [a], shaS [b]] := by simp [allN, nmsB_one]
theorem allN_ab (a b : Nat) : allN [[a], [b]] = [shaS [a], shaS [b]] := by simp [allN, nmsB_one]
theorem setL_two {x y : Sm} (h : ¬ x = y) : (setL [x, x, y]).length = 2 := by
  have d1 := srt_nodup (setL_srt [x, x, y])
  have d2 : [x, y].Nodup := by simp [h]
  have hp : (setL [x, x, y]).Perm [x, y] := (List.perm_ext_iff_of_nodup d1 d2).2 fun z => by rw [setL_mem]; simp
  exact hp.length_eq
theorem setL_empty : setL [] = [] := setL_self List.Pairwise.nil
theorem ne_97_98 : ¬ shaS [97] = shaS [98] := fun h => absurd (congrArg Sm.l h) (by decide +kernel)
theorem ne_120_98 : ¬ shaS [120] = shaS [98] := fun h => absurd (congrArg Sm.l h) (by decide +kernel)
theorem ne_97_113 : ¬ shaS [97] = shaS [113] := fun h => absurd (congrArg Sm.l h) (by decide +kernel)
theorem ne_122_97 : ¬ shaS [122] = shaS [97] := fun h => absurd (congrArg Sm.l h) (by decide +kernel)
/-- What is asked of Join. -/
theorem join_1 {a b : Sm} (h : ¬ a = b) (ha : goodQ (a, [97]) = true) : joinQ [a, a] [(b, [120]), (a, [97])] = ([97, 97], 0) := by
  have hp : posQ [(b, [120]), (a, [97])] a = 1 := posQ_at (by simp) rfl fun j hj => by
    obtain rfl : j = 0 := by omega
    exact fun e => h e.symm
  simp [joinQ, joinGo, hp, ha]
theorem join_2 {a q : Sm} (h : ¬ a = q) (ha : goodQ (a, [97]) = true) : joinQ [a, q] [(a, [97])] = ([], 5) := by
  have hp : posQ [(a, [97])] a = 0 := posQ_at (by simp) rfl fun j hj => by omega
  have hq : posQ [(a, [97])] q = 1 := posQ_none fun j hj => by simp at hj; subst hj; exact h
  simp [joinQ, joinGo, hp, hq, ha]
theorem join_3 {b q : Sm} (hb : goodQ (b, [120]) = false) : joinQ [b, q] [(b, [120])] = ([], 11) := by
  have hp : posQ [(b, [120])] b = 0 := posQ_at (by simp) rfl fun j hj => by omega
  simp [joinQ, joinGo, hp, hb]
theorem join_4 {a : Sm} (hb : goodQ (a, [122]) = false) : joinQ [a] [(a, [122]), (a, [97])] = ([], 11) := by
  have hp : posQ [(a, [122]), (a, [97])] a = 0 := posQ_at (by simp) rfl fun j hj => by omega
  simp [joinQ, joinGo, hp, hb]
theorem good_97 : goodQ (shaS [97], [97]) = true := by simp [goodQ]
theorem good_120 : goodQ (shaS [98], [120]) = false := by simp [goodQ, ne_120_98]
theorem good_122 : goodQ (shaS [97], [122]) = false := by simp [goodQ, ne_122_97]
end Go.Proofs.Ytbjlmhbpcopfbaa

/- Chunks: ChunkKnown. (Written by mk_chunkw.py.) -/
namespace Go.Proofs.Ytbjlmhbpcopfbaa
open Go.RowKit

theorem sumOfP_ty (c : Nat) (hc : c < 256) : Fn1 Try.prog 14 (Ty.slT 22 1 [Ty.sl 5 1 [bv c]]) (Ty.ex (.agg (u8s (shaS [c]).l))) := sumOf1_ty (e := 22) (τ := Ty.sl 5 1 [bv c]) [c] (reads_sl _ _ _) (by simpa using hc) (by simp)
theorem sumOf0_ty : Fn1 Try.prog 14 (Ty.ex nilB) (Ty.ex (.agg (u8s (shaS []).l))) := ⟨fun args w => by kernel_rfl, fun w v hv => by
  have hv : v = nilB := hv
  subst hv
  have h := Of_any none 0 0 0 0 [] w rfl (Nat.le_refl _) (fun h => absurd rfl h) (fun i l h => by simp at h) (by simp) (by simp)
  rw [List.flatten_nil] at h
  have e : shaL [] = (shaS []).l := rfl
  rw [e] at h
  generalize shaS [] = E at *
  exact Ret.of h⟩
theorem made_zeros (n : Nat) : (madeCells (Value.int .u8 0).cells (n * 1)).toList = (List.replicate n 0).map bv := by
  rw [Nat.mul_one]
  simp only [madeCells, Value.cells, bv, List.map_replicate]
  refine List.eq_replicate_iff.2 ⟨by simp, fun b hb => ?_⟩
  simp only [Array.toList_map, Array.toList_range, List.mem_map] at hb
  obtain ⟨x, _, rfl⟩ := hb
  show #[Value.int .u8 0][x % 1]! = Value.int .u8 ((0 : Nat) : Int)
  rw [Nat.mod_one]; rfl
theorem run_makeBytes {P : Program} {t e : TypeId} (n : Nat) (hn : n ≤ 1000000) (ht : P.underlying t = some (.slice e)) (hi : (P.info? e).map (fun i => (i.zero, i.size, i.bytes)) = some (some (.int .u8 0), 1, 1)) (w : World) :
    (Instr.makeSlice t (.int .i64 (n : Int)) (.int .i64 (n : Int))).run P w = .ok (.slice (some ⟨w.heap.size, 0, none⟩) n n) (w.alloc (.cells ((List.replicate n 0).map bv).toArray e)) := by
  obtain ⟨i, h1, h2, h3, h4⟩ := info_parts hi
  have h := run_make (P := P) w t e i _ ht h1 h2 .i64 .i64 (n : Int) (n : Int) (by omega) (Int.le_refl _) (by rw [h4]; omega) (by omega)
  rw [Int.toNat_natCast, h3] at h
  rw [h]
  congr 3
  exact Array.toList_inj.1 (by rw [made_zeros])
theorem cMakeBytes {w0 : World} {Γ : Ctx} {o : Oper} {n : Nat} (ho : o.op = .makeSlice 22 (.const (.int .i64 (n : Int))) (.const (.int .i64 (n : Int)))) (hn : n ≤ 1000000) : OpOk Try.prog w0 Γ o (Ty.sl 5 n ((List.replicate n 0).map bv)) :=
  .new fun a w hb hs => by
    refine ⟨.slice (some ⟨w.heap.size, 0, none⟩) n n, w.alloc (.cells ((List.replicate n 0).map bv).toArray 5), ?_, ((Keeps.refl [] w).alloc _).below, ?_⟩
    · have h := Seg.ofBlk (w := w.alloc (.cells ((List.replicate n 0).map bv).toArray 5)) (sz := 1) (cap := n) (Blk.new w 5 ((List.replicate n 0).map bv).toArray) (by simp) (by simp [maxLen]; omega)
      have h := h.sl
      rw [List.toList_toArray] at h
      exact h
    · unfold execOp
      simp [ho, Act.eval, run_makeBytes n hn Try.underlying22 infoU8c]
theorem buildP0 (x : Sm) (w : World) : (Instr.build PiT #[(0, .agg (u8s x.l))]).run Try.prog w = .ok (.agg (pcA x nilB)) w := by
  have hx : (u8s x.l).size = 32 := by rw [u8s_size, x.len]
  have hz : (pcA Sm.zero nilB).size = 33 := pcA_size _ _
  have hu := run_underlying Try.underlying29 w
  have h1 := Try.sizeOf27 w
  have hs : splice (pcA Sm.zero nilB) 0 (u8s x.l).toList = pcA x nilB := by
    apply Array.ext_getElem?
    intro j
    rw [splice_get _ _ _ _ (by rw [hz]; simp [hx])]
    simp only [Array.length_toList, hx]
    unfold pcA
    by_cases h32 : 32 ≤ j
    · rw [if_neg (by omega), Array.getElem?_append_right (by rw [u8s_size, Sm.len]; exact h32), Array.getElem?_append_right (by rw [hx]; exact h32), hx, u8s_size, Sm.len]
    · rw [if_pos (by omega), Array.getElem?_append_left (by rw [hx]; omega)]
      simp
  have hf : Instr.fill (fun x => ([(0, 32), (32, 1)] : List (Nat × Nat))[x]?) (Value.agg (pcA Sm.zero nilB)).cells [(0, .agg (u8s x.l))] = some (pcA x nilB) := by
    rw [show (Value.agg (pcA Sm.zero nilB)).cells = pcA Sm.zero nilB from rfl, fill_step (v := .agg (u8s x.l)) (off := 0) (size := 32) rfl hx (by rw [hz]; omega)]
    rw [show (Value.agg (u8s x.l)).cells = u8s x.l from rfl, hs]
    rfl
  simp only [Instr.build, Sem.run_bind, zeroPc w, Result.andThen_ok, hu]
  simp [h1, hf]
theorem cBuildP0 {w0 : World} {Γ : Ctx} {o : Oper} {x : Operand} {s : Sm} (ho : o.op = .build PiT #[(0, x)]) (hx : OpT Γ x (Ty.ex (.agg (u8s s.l)))) : OpOk Try.prog w0 Γ o (Ty.ex (.agg (pcA s nilB))) :=
  cBuildP (vs := #[(0, .agg (u8s s.l))]) ho (fun a w hs => by
    obtain ⟨v', h1, h2⟩ := hs x _ (by simp [ho, Op.operands]) hx
    have h2 : v' = .agg (u8s s.l) := h2
    simp [h1, h2]) (buildP0 s)
theorem cBuildPi {w0 : World} {Γ : Ctx} {o : Oper} {x y : Operand} {s : Sm} {b : List Nat} (ho : o.op = .build PiT #[(0, x), (1, y)]) (hx : OpT Γ x (Ty.ex (.agg (u8s s.l)))) (hy : Has w0 Γ y (slB b)) : OpOk Try.prog w0 Γ o (Ty.pcT (s, b)) :=
  .val fun a w hb hs => by
    obtain ⟨v, h1, h2⟩ := hs x _ (by simp [ho, Op.operands]) hx
    have h2 : v = .agg (u8s s.l) := h2
    obtain ⟨u, h3, h4⟩ := hy.see hs (by simp [ho, Op.operands]) hb
    refine ⟨.agg (pcA s u), ⟨u, rfl, h4⟩, ?_⟩
    unfold execOp
    simp only [ho]
    rw [show ((#[(0, x), (1, y)] : Array (Nat × Operand)).map fun (i, x) => (i, a.eval x)) = #[(0, .agg (u8s s.l)), (1, u)] by simp [h1, h2, h3], Sem.run_bind, buildPc s (rdB_slice (sl_rdB b _ _ h4)) w]
    rfl
theorem nil_sums (w : World) : (Ty.sums 27 []).p w nilB := ⟨none, 0, rfl, Nat.le_refl _, Nat.zero_le _, fun _ => ⟨rfl, rfl⟩, fun j u h => by simp [flat] at h⟩
theorem nil_pcsR (w : World) : (Ty.pcsR []).p w nilB := ⟨[], Pcr.nil _, none, 0, rfl, Nat.zero_le _, fun _ => rfl, fun j u h => by simp [flatQ] at h⟩
theorem nil_blsR (w : World) : (Ty.blsR []).p w nilB := ⟨[], ⟨rfl, fun k h => by simp at h⟩, none, 0, rfl, Nat.zero_le _, fun _ => rfl, fun j u h => by simp at h⟩
theorem tup_fix {e : Value} : ∀ w w' v, (Ty.tup [Ty.rdB [], Ty.ex e]).p w v → (Ty.tup [Ty.rdB [], Ty.ex e]).p w' v := fun w w' v ⟨vs, h1, h2⟩ => by
  refine ⟨vs, h1, ?_⟩
  match vs, h2 with
  | [a, b], ⟨⟨A, c, h3, h4, h5, h6, _⟩, h8, _⟩ => exact ⟨⟨A, c, h3, h4, h5, h6, Rd.nil _ _⟩, h8, trivial⟩
theorem rdB_fix : ∀ w w' v, (Ty.rdB []).p w v → (Ty.rdB []).p w' v := fun _ _ _ ⟨A, c, h3, h4, h5, h6, _⟩ => ⟨A, c, h3, h4, h5, h6, Rd.nil _ _⟩
theorem aa_str : ((strB [97, 97]).toList == ({ data := #[97, 97] } : ByteArray).toList) = true := by
  have e : strB [97, 97] = ({ data := #[97, 97] } : ByteArray) := rfl
  rw [e]
  exact beq_self_eq_true _
set_option maxRecDepth 100000 in
set_option maxHeartbeats 4000000 in
theorem lawChunkKnown_any (W : World) : Calls Try.prog 5 #[] W fun e w' => e = .returned (.bool true) ∧ Below W.heap.size W w' := by
  have hOa := sumOfP_ty 97 (by decide)
  have hOb := sumOfP_ty 98 (by decide)
  have hOq := sumOfP_ty 113 (by decide)
  have gA := good_97
  have gB := good_120
  have gZ := good_122
  have nab := ne_97_98
  have naq := ne_97_113
  have hAll3 := call_ty [[97], [97], [98]] (by simp) (by simp) (by simp)
  have hAll2 := call_ty [[97], [98]] (by simp) (by simp) (by simp)
  have hAll0 := call_ty [] (by simp) (by simp) (by simp)
  rw [allN_aab] at hAll3
  rw [allN_ab] at hAll2
  rw [show allN [] = [] from rfl, setL_empty] at hAll0
  generalize shaS [97] = A at *
  generalize shaS [98] = B at *
  generalize shaS [113] = q at *
  have hL3 := setL_two nab
  have hS2 := setL_srt [A, B]
  have hL2 := setL_len [A, B]
  generalize setL [A, A, B] = X3 at *
  generalize setL [A, B] = X2 at *
  have hG2 := good_ty X2 (by simp at hL2; omega)
  rw [(goodL_iff X2).2 ⟨hS2, by simp at hL2; omega⟩] at hG2
  have hJ1 := join_ty [A, A] [(B, [120]), (A, [97])] (by simp) (by simp) (by simp)
  rw [join_1 nab gA] at hJ1
  have hJ2 := join_ty [A, q] [(A, [97])] (by simp) (by simp) (by simp)
  rw [join_2 naq gA] at hJ2
  have hJ3 := join_ty [B, q] [(B, [120])] (by simp) (by simp) (by simp)
  rw [join_3 gB] at hJ3
  have hJ4 := join_ty [A] [(A, [122]), (A, [97])] (by simp) (by simp) (by simp)
  rw [join_4 gZ] at hJ4
  have hJ0 := join_ty [] [] (by simp) (by simp) (by simp)
  rw [show joinQ [] [] = ([], 0) from rfl] at hJ0
  have hGA := goodq_ty (A, [97]) (by simp) (by simp)
  have hGB := goodq_ty (B, [120]) (by simp) (by simp)
  rw [gA] at hGA
  rw [gB] at hGB
  have hO0 := sumOf0_ty
  have hC0 := ccut_ty [] (by simp) (by simp)
  rw [show cutQ [] = [] from by unfold cutQ; rw [pcsB_nil]; rfl] at hC0
  generalize shaS [] = E at *
  have hGE := goodq_ty (E, []) (by simp) (by simp)
  rw [show goodQ (E, []) = false by simp [goodQ]] at hGE
  have hOn := sumOf1_ty (e := 22) (τ := Ty.sl 5 129 ((List.replicate 129 0).map bv)) (List.replicate 129 0) (reads_sl _ _ _) (by simp) (by simp)
  have eN : shaL (List.replicate 129 0) = (shaS (List.replicate 129 0)).l := rfl
  rw [eN] at hOn
  generalize shaS (List.replicate 129 0) = n9 at *
  clear eN
  have hGn := goodq_ty (n9, List.replicate 129 0) (by simp) (by simp)
  rw [show goodQ (n9, List.replicate 129 0) = false by simp [goodQ]] at hGn
  dsimp only at hJ0 hJ1 hJ2 hJ3 hJ4
  refine enter_ty 172 [] Try.func5 rfl (by kernel_rfl) trivial fun a hF => ?_
  have hB := Below.refl W.heap.size W
  repeat with_reducible refine wp_seq ?_
  refine' reg_all hF ?_ mixed (by kernel_rfl) ?_
  rotate_left
  · repeat (first | exact Line.nil | ((refine' Line.cons rfl (.run rfl rfl ?_) ?_); (any_goals exact cAssign rfl rfl); rotate_left))
  intro a w1 hF hb hN
  have hBs := hB.size
  replace hB := hB.trans (hb.mono hB.size)
  dsimp only [ext, Option.getD] at hF
  repeat with_reducible first | refine wp_seq ?_ | refine nThen ?_
  refine' reg_all hF ?_ mixed (by kernel_rfl) ?_
  rotate_left
  · repeat (first | exact Line.nil | ((refine' Line.cons rfl (.run rfl rfl ?_) ?_); (any_goals (first | exact cNot rfl rfl | exact cCall0 rfl awake11_ty)); rotate_left))
  intro a w2 hF hb hN
  have hBs := hB.size
  replace hB := hB.trans (hb.mono hB.size)
  dsimp only [ext, Option.getD] at hF
  repeat with_reducible refine nThen ?_
  refine cond_f hF rfl ?_
  replace hF := hF.nil
  repeat with_reducible first | refine wp_seq ?_ | refine nThen ?_ | refine wp_skip ?_
  refine wp_region_lit ?_
  refine tlConstB (n := 1) (vs := [bv 97]) hF rfl rfl rfl (fun a => by simp [Act.eval, bv]) rfl (bv_cells [97]) Try.underlying22 Try.underlying5 infoU8c rfl rfl rfl (by decide) ?_
  intro a a0 hF hb
  replace hB := hB.trans (hb.mono hB.size)
  refine' tlOp hF rfl rfl rfl ?_ ?_
  rotate_left
  · exact cBuildT (τs := [Ty.sl 5 1 [bv 97]]) rfl (partsT1 rfl (.t rfl) (Ty.sl_isSl _ _ _)) Try.underlying57 infoB rfl
  intro a a1 hF hb
  have hBs := hB.size
  replace hB := hB.trans (hb.mono hB.size)
  try (refine wpList_nil ?_)
  refine' tlOp hF rfl rfl rfl ?_ ?_
  rotate_left
  · exact cCall1 rfl rfl hOa
  intro a a2 hF hb
  have hBs := hB.size
  replace hB := hB.trans (hb.mono hB.size)
  try (refine wpList_nil ?_)
  refine tlConstB (n := 1) (vs := [bv 97]) hF rfl rfl rfl (fun a => by simp [Act.eval, bv]) rfl (bv_cells [97]) Try.underlying22 Try.underlying5 infoU8c rfl rfl rfl (by decide) ?_
  intro a a3 hF hb
  replace hB := hB.trans (hb.mono hB.size)
  obtain ⟨u22, k22, hF⟩ := hF.open (s := 22) rfl
  have s22 := rdB_slice (sl_rdB [97] _ _ k22)
  let T97 := Ty.sl 5 1 [bv 97]
  have k22 : T97.p a3 u22 := k22
  refine' tlOp hF rfl rfl rfl ?_ ?_
  rotate_left
  · exact cBuildPc (s := A) rfl rfl rfl s22
  intro a a4 hF hb
  have hBs := hB.size
  replace hB := hB.trans (hb.mono hB.size)
  try (refine wpList_nil ?_)
  replace k22 := T97.below k22 hb
  refine tlConstB (n := 1) (vs := [bv 98]) hF rfl rfl rfl (fun a => by simp [Act.eval, bv]) rfl (bv_cells [98]) Try.underlying22 Try.underlying5 infoU8c rfl rfl rfl (by decide) ?_
  intro a b0 hF hb
  replace hB := hB.trans (hb.mono hB.size)
  replace k22 := T97.below k22 hb
  refine' tlOp hF rfl rfl rfl ?_ ?_
  rotate_left
  · exact cBuildT (τs := [Ty.sl 5 1 [bv 98]]) rfl (partsT1 rfl (.t rfl) (Ty.sl_isSl _ _ _)) Try.underlying57 infoB rfl
  intro a b1 hF hb
  have hBs := hB.size
  replace hB := hB.trans (hb.mono hB.size)
  try (refine wpList_nil ?_)
  replace k22 := T97.below k22 hb
  refine' tlOp hF rfl rfl rfl ?_ ?_
  rotate_left
  · exact cCall1 rfl rfl hOb
  intro a b2 hF hb
  have hBs := hB.size
  replace hB := hB.trans (hb.mono hB.size)
  try (refine wpList_nil ?_)
  replace k22 := T97.below k22 hb
  refine tlConstB (n := 1) (vs := [bv 120]) hF rfl rfl rfl (fun a => by simp [Act.eval, bv]) rfl (bv_cells [120]) Try.underlying22 Try.underlying5 infoU8c rfl rfl rfl (by decide) ?_
  intro a b3 hF hb
  replace hB := hB.trans (hb.mono hB.size)
  replace k22 := T97.below k22 hb
  obtain ⟨u29, k29, hF⟩ := hF.open (s := 29) rfl
  have s29 := rdB_slice (sl_rdB [120] _ _ k29)
  let T12 := Ty.sl 5 1 [bv 120]
  have k29 : T12.p b3 u29 := k29
  refine' tlOp hF rfl rfl rfl ?_ ?_
  rotate_left
  · exact cBuildPc (s := B) rfl rfl rfl s29
  intro a b4 hF hb
  have hBs := hB.size
  replace hB := hB.trans (hb.mono hB.size)
  try (refine wpList_nil ?_)
  replace k22 := T97.below k22 hb
  replace k29 := T12.below k29 hb
  have z1 := hB.size
  refine' tlOp hF rfl rfl rfl ?_ ?_
  rotate_left
  · exact cAllocV rfl (run_alloc_i infoPc)
  intro a b5 hF hb
  have hBs := hB.size
  replace hB := hB.trans (hb.mono hB.size)
  try (refine wpList_nil ?_)
  replace k22 := T97.below k22 hb
  replace k29 := T12.below k29 hb
  obtain ⟨p1, ⟨g1, rfl, hg1, hb1⟩, hF⟩ := hF.open (s := 1) rfl
  have lt1 := hb1.lt
  refine' tlOp hF rfl rfl rfl ?_ ?_
  rotate_left
  · exact cAllocV rfl (run_alloc_i infoPc)
  intro a b6 hF hb
  have hBs := hB.size
  replace hB := hB.trans (hb.mono hB.size)
  try (refine wpList_nil ?_)
  replace k22 := T97.below k22 hb
  replace k29 := T12.below k29 hb
  replace hb1 := hb1.below hb
  obtain ⟨p2, ⟨g2, rfl, hg2, hb2⟩, hF⟩ := hF.open (s := 2) rfl
  have hg2' : g1 < g2 := Nat.lt_of_lt_of_le lt1 hg2
  have hbo1 := hb1
  refine tlStoreV (Δ := [(1, Ty.ex (.pointer (some ⟨g1, 0, none⟩))), (2, Ty.ex (.pointer (some ⟨g2, 0, none⟩))), (30, Ty.ex (.agg (pcA B u29)))]) hF rfl rfl rfl rfl (hF.getEx (s := 23) rfl) hb1 (by show (pcA _ _).size = (pcA _ _).size; rw [pcA_size, pcA_size]) (by show _ = some (pcA _ _).size; rw [pcA_size]; exact sizePc) (pcA_one _ s22) (hF.keep [1, 2, 30]) rfl ?_
  intro w3 hF hb1 hk1
  replace hb2 := hb2.keeps hk1 (by simp; omega)
  have ap1 := apart_u8 (w := b6) (S := [g1]) (e := PiT) (fun b hb _ => by simp only [List.mem_singleton] at hb; subst hb; exact ⟨_, (0, 0), hbo1⟩) (by decide)
  replace k22 := T97.st k22 hk1 ap1
  replace k29 := T12.st k29 hk1 ap1
  replace hB := below_own hB hk1 (by intro y hy; simp only [List.mem_singleton] at hy; omega)
  have hbo2 := hb2
  refine tlStoreV (Δ := [(1, Ty.ex (.pointer (some ⟨g1, 0, none⟩))), (2, Ty.ex (.pointer (some ⟨g2, 0, none⟩)))]) hF rfl rfl rfl rfl (hF.getEx (s := 30) rfl) hb2 (by show (pcA _ _).size = (pcA _ _).size; rw [pcA_size, pcA_size]) (by show _ = some (pcA _ _).size; rw [pcA_size]; exact sizePc) (pcA_one _ s29) (hF.keep [1, 2]) rfl ?_
  intro w4 hF hb2 hk2
  refine wpList_nil ?_
  replace hb1 := hb1.keeps hk2 (by simp; omega)
  have ap2 := apart_u8 (w := w3) (S := [g2]) (e := PiT) (fun b hb _ => by simp only [List.mem_singleton] at hb; subst hb; exact ⟨_, (0, 0), hbo2⟩) (by decide)
  replace k22 := T97.st k22 hk2 ap2
  replace k29 := T12.st k29 hk2 ap2
  replace hB := below_own hB hk2 (by intro y hy; simp only [List.mem_singleton] at hy; omega)
  have kA : (Ty.rdB [97]).p w4 u22 := sl_rdB [97] _ _ k22
  have kB : (Ty.rdB [120]).p w4 u29 := sl_rdB [120] _ _ k29
  have xA : (Ty.atR (A.enc ++ [u22])).p w4 (.pointer (some ⟨g1, 0, none⟩)) := at_atR' (e := PiT) (by simp) _ _ (by have h := blk_at hb1; rwa [show (Value.agg (pcA A u22)).cells.toList = A.enc ++ [u22] from pcA_list _ _] at h)
  have xB : (Ty.atR (B.enc ++ [u29])).p w4 (.pointer (some ⟨g2, 0, none⟩)) := at_atR' (e := PiT) (by simp) _ _ (by have h := blk_at hb2; rwa [show (Value.agg (pcA B u29)).cells.toList = B.enc ++ [u29] from pcA_list _ _] at h)
  clear hb1 hb2 hbo1 hbo2 ap1 ap2 k22 k29
  have hB0 := hB
  have hw4 := hB.size
  replace hB := Below.refl w4.heap.size w4
  repeat with_reducible first | refine wp_seq ?_ | refine nThen ?_

  refine' reg_all hF ?_ mixed (by kernel_rfl) ?_
  rotate_left
  · repeat (first | exact Line.nil | ((refine' Line.cons rfl (.run rfl rfl ?_) ?_); (any_goals (first | exact cMove rfl rfl | exact cAssign rfl rfl | exact cFldX0 rfl (.l rfl xA) Try.underlying29 rfl sizeS | exact cLoadSumR rfl (.t rfl) Try.underlying27 sizeS | exact cBuildSums [A, A] rfl (parts2v rfl rfl rfl) Try.underlying35 infoS rfl | exact cLoadQX rfl (.l rfl xB) Try.underlying29 rfl sizePc | exact cLoadQX rfl (.l rfl xA) Try.underlying29 rfl sizePc | exact cBuildV (vs := [.agg (pcA B u29), .agg (pcA A u22)]) rfl (parts2v rfl rfl rfl) Try.underlying24 infoPc rfl (by intro z hz; simp only [List.mem_cons, List.not_mem_nil, or_false] at hz; rcases hz with rfl | rfl <;> exact pcA_size _ _) (by decide) (by simp [maxLen]) | exact cCallH2 rfl (.t rfl) (has_pcs rfl (newsPc2 _ _ _ _) rfl (pcr2 kB kA)) hJ1 | exact cExtract rfl rfl rfl)); rotate_left))
  intro a w5 hF hb hN
  have hBs := hB.size
  replace hB := hB.trans (hb.mono hB.size)
  dsimp only [ext, Option.getD] at hF
  repeat with_reducible first | refine wp_seq ?_ | refine nThen ?_
  obtain ⟨v3, k3, hF⟩ := hF.open (s := 3) rfl
  replace hF := hF.keep [1, 2, 3, 4]
  replace xA := (Ty.atR _).below xA hB
  replace xB := (Ty.atR _).below xB hB
  replace kA := (Ty.rdB _).below kA hB
  replace kB := (Ty.rdB _).below kB hB
  replace hB0 := hB0.trans (hB.mono hw4)
  have hw5 := hB0.size
  replace hB := Below.refl w5.heap.size w5
  have hpw6 : (Ty.atR A.enc).p _ (.pointer (some ⟨g1, 0 + 0, none⟩)) := ⟨_, rfl, rd_pre (by obtain ⟨ad, e, h, _⟩ := (Ty.atR _).below xA hB; cases e; exact h), fun h => by have := congrArg List.length h; rw [encL] at this; cases this⟩
  have xw6 := (Ty.atR _).below xA hB
  have kkw6 := (Ty.rdB _).below kA hB
  refine' region_own 15 [(3, 46), (4, 47)] mixed (by kernel_rfl) hF ?_ ?_
  rotate_left
  · simp only [List.take_succ_cons, List.take_zero]
    repeat (first
        | exact LineO.nil
        | (refine' LineO.cons rfl rfl (.no rfl rfl rfl rfl rfl) ?_; rotate_left)
        | ((first | refine' LineO.cons rfl rfl (.run rfl ?_) ?_ | refine' LineO.cons rfl rfl (.yes rfl rfl rfl ?_) ?_)
           any_goals (first | exact .ex (cAssign rfl rfl) | exact .ex (cFieldExE rfl rfl Try.underlying29 rfl sizeS) | exact .ex (cLoadSumR rfl (.l rfl hpw6) Try.underlying27 sizeS) | exact oBuild (vs := [bv 113]) rfl (fun a w _ => by simp [Act.eval, bv]) Try.underlying22 infoU8c rfl (fun v hv => by rw [bv_cells [113] v hv]; rfl) (by decide) (by simp [maxLen]) | exact .ex (cCall1 rfl rfl hOq) | exact oBuild (vs := [.agg (u8s A.l), .agg (u8s q.l)]) rfl (parts2v rfl rfl rfl) Try.underlying35 infoS rfl (by intro z hz; simp only [List.mem_cons, List.not_mem_nil, or_false] at hz; rcases hz with rfl | rfl <;> exact (u8s_size _).trans (Sm.len _)) (by decide) (by simp [maxLen]) | exact .ex (cLoadQX rfl (.l rfl xw6) Try.underlying29 rfl sizePc) | exact oBuild (vs := [.agg (pcA A u22)]) rfl (parts1v rfl rfl) Try.underlying24 infoPc rfl (by intro z hz; simp only [List.mem_singleton] at hz; subst hz; exact pcA_size _ _) (by decide) (by simp [maxLen]) | exact oFix tup_fix (cCallH2 rfl (has_sumsS rfl (newsS2 _ _) rfl) (has_pcsS rfl (newsPc _ _) rfl (pcr1 kkw6)) hJ2) | exact oFix tup_fix (cMove rfl rfl) | exact oFix rdB_fix (cExtract rfl rfl rfl) | exact oFix rdB_fix (cAssign rfl rfl) | exact .ex (cExtract rfl rfl rfl))
           rotate_left)
        | ((first | refine' LineO.take rfl rfl rfl (.run rfl ?_) ?_ | refine' LineO.take rfl rfl rfl (.yes rfl rfl rfl ?_) ?_)
           any_goals (first | exact tkFreeze rfl Try.underlying22 Try.underlying5 (by decide) | exact tkBuildT1 rfl Try.underlying57 infoB)
           rotate_left))
  intro a w6 hF hb hN
  have hBs := hb.size
  replace hB := hB.trans (hb.mono hB.size)
  simp only [List.take_succ_cons, List.take_zero, List.drop_succ_cons, List.drop_zero] at hF hN ⊢
  dsimp only [hideT, List.foldr, extO, Option.getD, OTy.ex, OTy.seg, OTy.slo, OTy.var] at hF
  refine wpList_nil ?_
  replace hF := hF.keep [1, 2, 3, 4, 6]
  repeat with_reducible first | refine wp_seq ?_ | refine nThen ?_
  have hpw7 : (Ty.atR B.enc).p _ (.pointer (some ⟨g2, 0 + 0, none⟩)) := ⟨_, rfl, rd_pre (by obtain ⟨ad, e, h, _⟩ := (Ty.atR _).below xB hB; cases e; exact h), fun h => by have := congrArg List.length h; rw [encL] at this; cases this⟩
  have xw7 := (Ty.atR _).below xB hB
  have kkw7 := (Ty.rdB _).below kB hB
  refine' region_own 15 [(3, 59), (4, 60)] mixed (by kernel_rfl) hF ?_ ?_
  rotate_left
  · simp only [List.take_succ_cons, List.take_zero]
    repeat (first
        | exact LineO.nil
        | (refine' LineO.cons rfl rfl (.no rfl rfl rfl rfl rfl) ?_; rotate_left)
        | ((first | refine' LineO.cons rfl rfl (.run rfl ?_) ?_ | refine' LineO.cons rfl rfl (.yes rfl rfl rfl ?_) ?_)
           any_goals (first | exact .ex (cAssign rfl rfl) | exact .ex (cFieldExE rfl rfl Try.underlying29 rfl sizeS) | exact .ex (cLoadSumR rfl (.l rfl hpw7) Try.underlying27 sizeS) | exact oBuild (vs := [bv 113]) rfl (fun a w _ => by simp [Act.eval, bv]) Try.underlying22 infoU8c rfl (fun v hv => by rw [bv_cells [113] v hv]; rfl) (by decide) (by simp [maxLen]) | exact .ex (cCall1 rfl rfl hOq) | exact oBuild (vs := [.agg (u8s B.l), .agg (u8s q.l)]) rfl (parts2v rfl rfl rfl) Try.underlying35 infoS rfl (by intro z hz; simp only [List.mem_cons, List.not_mem_nil, or_false] at hz; rcases hz with rfl | rfl <;> exact (u8s_size _).trans (Sm.len _)) (by decide) (by simp [maxLen]) | exact .ex (cLoadQX rfl (.l rfl xw7) Try.underlying29 rfl sizePc) | exact oBuild (vs := [.agg (pcA B u29)]) rfl (parts1v rfl rfl) Try.underlying24 infoPc rfl (by intro z hz; simp only [List.mem_singleton] at hz; subst hz; exact pcA_size _ _) (by decide) (by simp [maxLen]) | exact oFix tup_fix (cCallH2 rfl (has_sumsS rfl (newsS2 _ _) rfl) (has_pcsS rfl (newsPc _ _) rfl (pcr1 kkw7)) hJ3) | exact oFix tup_fix (cMove rfl rfl) | exact oFix rdB_fix (cExtract rfl rfl rfl) | exact oFix rdB_fix (cAssign rfl rfl) | exact .ex (cExtract rfl rfl rfl))
           rotate_left)
        | ((first | refine' LineO.take rfl rfl rfl (.run rfl ?_) ?_ | refine' LineO.take rfl rfl rfl (.yes rfl rfl rfl ?_) ?_)
           any_goals (first | exact tkFreeze rfl Try.underlying22 Try.underlying5 (by decide) | exact tkBuildT1 rfl Try.underlying57 infoB)
           rotate_left))
  intro a w7 hF hb hN
  have hBs := hb.size
  replace hB := hB.trans (hb.mono hB.size)
  simp only [List.take_succ_cons, List.take_zero, List.drop_succ_cons, List.drop_zero] at hF hN ⊢
  dsimp only [hideT, List.foldr, extO, Option.getD, OTy.ex, OTy.seg, OTy.slo, OTy.var] at hF
  refine wpList_nil ?_
  replace hF := hF.keep [1, 2, 3, 4, 6, 8]
  repeat with_reducible first | refine wp_seq ?_ | refine nThen ?_
  refine wp_region_lit ?_
  have xAr := (Ty.atR _).below xA hB
  refine' tlOp hF rfl rfl rfl ?_ ?_
  rotate_left
  · exact cFldX0 rfl (.l rfl xAr) Try.underlying29 rfl sizeS
  intro a c0 hF hb
  have hBs := hB.size
  replace hB := hB.trans (hb.mono hB.size)
  try (refine wpList_nil ?_)
  refine' tlOp hF rfl rfl rfl ?_ ?_
  rotate_left
  · exact cLoadSumR rfl (.t rfl) Try.underlying27 sizeS
  intro a c1 hF hb
  have hBs := hB.size
  replace hB := hB.trans (hb.mono hB.size)
  try (refine wpList_nil ?_)
  refine' tlOp hF rfl rfl rfl ?_ ?_
  rotate_left
  · exact cBuildSums [A] rfl (parts1v rfl rfl) Try.underlying35 infoS rfl
  intro a c2 hF hb
  have hBs := hB.size
  replace hB := hB.trans (hb.mono hB.size)
  try (refine wpList_nil ?_)
  have xAr := (Ty.atR _).below xA hB
  refine' tlOp hF rfl rfl rfl ?_ ?_
  rotate_left
  · exact cFldX0 rfl (.l rfl xAr) Try.underlying29 rfl sizeS
  intro a c3 hF hb
  have hBs := hB.size
  replace hB := hB.trans (hb.mono hB.size)
  try (refine wpList_nil ?_)
  refine' tlOp hF rfl rfl rfl ?_ ?_
  rotate_left
  · exact cLoadSumR rfl (.t rfl) Try.underlying27 sizeS
  intro a c4 hF hb
  have hBs := hB.size
  replace hB := hB.trans (hb.mono hB.size)
  try (refine wpList_nil ?_)
  refine tlConstB (n := 1) (vs := [bv 122]) hF rfl rfl rfl (fun a => by simp [Act.eval, bv]) rfl (bv_cells [122]) Try.underlying22 Try.underlying5 infoU8c rfl rfl rfl (by decide) ?_
  intro a c5 hF hb
  replace hB := hB.trans (hb.mono hB.size)
  obtain ⟨u76, k76, hF⟩ := hF.open (s := 76) rfl
  have k76 := sl_rdB [122] _ _ k76
  have s76 := rdB_slice k76
  refine' tlOp hF rfl rfl rfl ?_ ?_
  rotate_left
  · exact cBuildPc (s := A) rfl rfl rfl s76
  intro a c7 hF hb
  have hBs := hB.size
  replace hB := hB.trans (hb.mono hB.size)
  try (refine wpList_nil ?_)
  replace k76 := (Ty.rdB _).below k76 hb
  have xAr := (Ty.atR _).below xA hB
  refine' tlOp hF rfl rfl rfl ?_ ?_
  rotate_left
  · exact cLoadQX rfl (.l rfl xAr) Try.underlying29 rfl sizePc
  intro a c8 hF hb
  have hBs := hB.size
  replace hB := hB.trans (hb.mono hB.size)
  try (refine wpList_nil ?_)
  replace k76 := (Ty.rdB _).below k76 hb
  refine' tlOp hF rfl rfl rfl ?_ ?_
  rotate_left
  · exact cBuildV (vs := [.agg (pcA A u76), .agg (pcA A u22)]) rfl (parts2v rfl rfl rfl) Try.underlying24 infoPc rfl (by intro z hz; simp only [List.mem_cons, List.not_mem_nil, or_false] at hz; rcases hz with rfl | rfl <;> exact pcA_size _ _) (by decide) (by simp [maxLen])
  intro a c9 hF hb
  have hBs := hB.size
  replace hB := hB.trans (hb.mono hB.size)
  try (refine wpList_nil ?_)
  replace k76 := (Ty.rdB _).below k76 hb
  have kAr := (Ty.rdB _).below kA hB
  refine' tlOp hF rfl rfl rfl ?_ ?_
  rotate_left
  · exact cCallH2 rfl (.t rfl) (has_pcs rfl (newsPc2 _ _ _ _) rfl (pcr2 k76 kAr)) hJ4
  intro a c10 hF hb
  have hBs := hB.size
  replace hB := hB.trans (hb.mono hB.size)
  try (refine wpList_nil ?_)
  refine' tlOp hF rfl rfl rfl ?_ ?_
  rotate_left
  · exact cMove rfl rfl
  intro a c11 hF hb
  have hBs := hB.size
  replace hB := hB.trans (hb.mono hB.size)
  try (refine wpList_nil ?_)
  refine' tlOp hF rfl rfl rfl ?_ ?_
  rotate_left
  · exact cExtract rfl rfl rfl
  intro a c12 hF hb
  have hBs := hB.size
  replace hB := hB.trans (hb.mono hB.size)
  try (refine wpList_nil ?_)
  refine' tlOp hF rfl rfl rfl ?_ ?_
  rotate_left
  · exact cExtract rfl rfl rfl
  intro a c13 hF hb
  have hBs := hB.size
  replace hB := hB.trans (hb.mono hB.size)
  try (refine wpList_nil ?_)
  refine' tlOp hF rfl rfl rfl ?_ ?_
  rotate_left
  · exact cAssign rfl rfl
  intro a c14 hF hb
  have hBs := hB.size
  replace hB := hB.trans (hb.mono hB.size)
  try (refine wpList_nil ?_)
  refine' tlOp hF rfl rfl rfl ?_ ?_
  rotate_left
  · exact cAssign rfl rfl
  intro a c15 hF hb
  have hBs := hB.size
  replace hB := hB.trans (hb.mono hB.size)
  try (refine wpList_nil ?_)
  repeat with_reducible first | refine wp_seq ?_ | refine nThen ?_
  replace hF := hF.keep [1, 2, 3, 4, 6, 8, 10]
  refine' reg_all hF ?_ mixed (by kernel_rfl) ?_
  rotate_left
  · repeat (first | exact Line.nil | ((refine' Line.cons rfl (.run rfl rfl ?_) ?_); (any_goals (first | exact cMove rfl rfl | exact cAssign rfl rfl | exact cCallH2 rfl (.l rfl (nil_sums _)) (.l rfl (nil_pcsR _)) hJ0 | exact cExtract rfl rfl rfl)); rotate_left))
  intro a d1 hF hb hN
  have hBs := hB.size
  replace hB := hB.trans (hb.mono hB.size)
  dsimp only [ext, Option.getD] at hF
  repeat with_reducible first | refine wp_seq ?_ | refine nThen ?_
  obtain ⟨v11, k11, hF⟩ := hF.open (s := 11) rfl
  replace hF := hF.keep [1, 2, 3, 4, 6, 8, 10, 11, 12]
  have hd1 := hB.size
  refine' region_ty 3 mixed (by kernel_rfl) hF ?_ ?_
  rotate_left
  · simp only [List.take_succ_cons, List.take_zero]
    repeat (first
        | exact Line.nil
        | (refine' Line.cons rfl (.new rfl rfl (run_alloc_i infoPc) rfl) ?_; rotate_left)
        | ((refine' Line.cons rfl (.run rfl rfl ?_) ?_)
           any_goals (first | exact cCallH1 rfl (.t rfl) hO0 | exact cBuildP0 rfl rfl)
           rotate_left))
  intro a d2 hF hb hN
  have hBs := hB.size
  replace hB := hB.trans (hb.mono hB.size)
  simp only [List.take_succ_cons, List.take_zero, List.drop_succ_cons, List.drop_zero] at hF hN ⊢
  dsimp only [ext, Option.getD] at hF
  obtain ⟨p13, ⟨g13, rfl, hg13, hb13⟩, hF⟩ := hF.open (s := 13) rfl
  replace k11 := (Ty.rdB _).below k11 hb
  refine tlStoreV (Δ := [(1, Ty.ex (.pointer (some ⟨g1, 0, none⟩))), (2, Ty.ex (.pointer (some ⟨g2, 0, none⟩))), (3, Ty.ex v3), (4, Ty.ex (.int .i64 ((0 : Nat) : Int))), (6, Ty.ex (.int .i64 ((5 : Nat) : Int))), (8, Ty.ex (.int .i64 ((11 : Nat) : Int))), (10, Ty.ex (.int .i64 ((11 : Nat) : Int))), (11, Ty.ex v11), (12, Ty.ex (.int .i64 ((0 : Nat) : Int))), (13, Ty.ex (.pointer (some ⟨g13, 0, none⟩)))]) hF rfl rfl rfl rfl (hF.getEx (s := 88) rfl) hb13 (by show (pcA _ _).size = (pcA _ _).size; rw [pcA_size, pcA_size]) (by show _ = some (pcA _ _).size; rw [pcA_size]; exact sizePc) (pcA_one _ ⟨none, 0, 0, rfl⟩) (hF.keep [1, 2, 3, 4, 6, 8, 10, 11, 12, 13]) rfl ?_
  intro d3 hF hb13 hk13
  refine wpList_nil ?_
  replace k11 : (Ty.rdB []).p d3 v11 := rdB_fix _ _ _ k11
  replace hB := below_own hB hk13 (by intro y hy; simp only [List.mem_singleton] at hy; omega)
  have xE : (Ty.pcP (E, [])).p d3 (.pointer (some ⟨g13, 0, none⟩)) := at_pcP (blk_at hb13) (nil_rdB _)
  have hBd := hB
  have hd3 := hB.size
  replace hB := Below.refl d3.heap.size d3
  repeat with_reducible first | refine wp_seq ?_ | refine nThen ?_
  refine' region_ty 6 mixed (by kernel_rfl) hF ?_ ?_
  rotate_left
  · simp only [List.take_succ_cons, List.take_zero]
    repeat (first
        | exact Line.nil
        | (refine' Line.cons rfl (.new rfl rfl (run_alloc_i infoPc) rfl) ?_; rotate_left)
        | ((refine' Line.cons rfl (.run rfl rfl ?_) ?_)
           any_goals (first | exact cMakeBytes (n := 129) rfl (by decide) | exact cBuildT (τs := [Ty.sl 5 129 ((List.replicate 129 0).map bv)]) rfl (partsT1 rfl (.t rfl) (Ty.sl_isSl _ _ _)) Try.underlying57 infoB rfl | exact cCall1 rfl rfl hOn | exact cBuildPi (b := List.replicate 129 0) rfl rfl (.t rfl))
           rotate_left))
  intro a d4 hF hb hN
  have hBs := hB.size
  replace hB := hB.trans (hb.mono hB.size)
  simp only [List.take_succ_cons, List.take_zero, List.drop_succ_cons, List.drop_zero] at hF hN ⊢
  dsimp only [ext, Option.getD] at hF
  obtain ⟨v93, ⟨u93, e93, k93⟩, hF⟩ := hF.open (s := 93) rfl
  subst e93
  have s93 := rdB_slice (sl_rdB _ _ _ k93)
  obtain ⟨p14, ⟨g14, rfl, hg14, hb14⟩, hF⟩ := hF.open (s := 14) rfl
  have hbo14 := hb14
  refine tlStoreV (Δ := [(1, Ty.ex (.pointer (some ⟨g1, 0, none⟩))), (2, Ty.ex (.pointer (some ⟨g2, 0, none⟩))), (3, Ty.ex v3), (4, Ty.ex (.int .i64 ((0 : Nat) : Int))), (6, Ty.ex (.int .i64 ((5 : Nat) : Int))), (8, Ty.ex (.int .i64 ((11 : Nat) : Int))), (10, Ty.ex (.int .i64 ((11 : Nat) : Int))), (11, Ty.ex v11), (12, Ty.ex (.int .i64 ((0 : Nat) : Int))), (13, Ty.ex (.pointer (some ⟨g13, 0, none⟩))), (14, Ty.ex (.pointer (some ⟨g14, 0, none⟩)))]) hF rfl rfl rfl rfl (hF.getEx (s := 93) rfl) hb14 (by show (pcA _ _).size = (pcA _ _).size; rw [pcA_size, pcA_size]) (by show _ = some (pcA _ _).size; rw [pcA_size]; exact sizePc) (pcA_one _ s93) (hF.keep [1, 2, 3, 4, 6, 8, 10, 11, 12, 13, 14]) rfl ?_
  intro d5 hF hb14 hk14
  refine wpList_nil ?_
  have ap14 := apart_u8 (w := d4) (S := [g14]) (e := PiT) (fun b hb _ => by simp only [List.mem_singleton] at hb; subst hb; exact ⟨_, (0, 0), hbo14⟩) (by decide)
  replace k93 := (slB _).st k93 hk14 ap14
  replace hB := below_own hB hk14 (by intro y hy; simp only [List.mem_singleton] at hy; omega)
  have xN : (Ty.pcP (n9, List.replicate 129 0)).p d5 (.pointer (some ⟨g14, 0, none⟩)) := at_pcP (blk_at hb14) (sl_rdB _ _ _ k93)
  replace xE := (Ty.pcP _).below xE hB
  replace k11 := (Ty.rdB _).below k11 hB
  replace hBd := hBd.trans (hB.mono hd3)
  have pA : (Ty.pcP (A, [97])).p d5 (.pointer (some ⟨g1, 0, none⟩)) := ⟨u22, (Ty.atR _).below xA hBd, (Ty.rdB _).below kA hBd⟩
  have pB : (Ty.pcP (B, [120])).p d5 (.pointer (some ⟨g2, 0, none⟩)) := ⟨u29, (Ty.atR _).below xB hBd, (Ty.rdB _).below kB hBd⟩
  replace k3 := (Ty.rdB _).below k3 hBd
  have hd5 := hBd.size
  clear hb13 hb14 hbo14 ap14 k93 xA xB kA kB
  replace hB := Below.refl d5.heap.size d5
  repeat with_reducible first | refine wp_seq ?_ | refine nThen ?_
  refine wp_region_lit ?_
  refine' tlOp hF rfl rfl rfl ?_ ?_
  rotate_left
  · exact cMove rfl rfl
  intro a e1 hF hb
  have hBs := hB.size
  replace hB := hB.trans (hb.mono hB.size)
  try (refine wpList_nil ?_)
  refine' tlOp hF rfl rfl rfl ?_ ?_
  rotate_left
  · exact OpOk.b (c := true) (cEql rfl rfl rfl) (decide_eq_true rfl)
  intro a e2 hF hb
  have hBs := hB.size
  replace hB := hB.trans (hb.mono hB.size)
  try (refine wpList_nil ?_)
  refine' tlOp hF rfl rfl rfl ?_ ?_
  rotate_left
  · exact cMove rfl rfl
  intro a e3 hF hb
  have hBs := hB.size
  replace hB := hB.trans (hb.mono hB.size)
  try (refine wpList_nil ?_)
  refine' tlGd hF rfl rfl rfl rfl rfl (cMove rfl rfl) ?_
  intro a e4 hF hb
  replace hB := hB.trans (hb.mono hB.size)
  have k3r := (Ty.rdB _).below k3 hB
  refine' tlGd hF rfl rfl rfl rfl rfl (cStrOf rfl (.l rfl k3r) Try.underlying22 Try.underlying5 Try.underlying9) ?_
  intro a e5 hF hb
  replace hB := hB.trans (hb.mono hB.size)
  refine' tlGd hF rfl rfl rfl rfl rfl (OpOk.b (c := true) (cEqlStr rfl rfl rfl) aa_str) ?_
  intro a e6 hF hb
  replace hB := hB.trans (hb.mono hB.size)
  refine' tlOp hF rfl rfl rfl ?_ ?_
  rotate_left
  · exact cPickT rfl rfl rfl
  intro a e7 hF hb
  have hBs := hB.size
  replace hB := hB.trans (hb.mono hB.size)
  try (refine wpList_nil ?_)
  refine' tlOp hF rfl rfl rfl ?_ ?_
  rotate_left
  · exact cMove rfl rfl
  intro a e8 hF hb
  have hBs := hB.size
  replace hB := hB.trans (hb.mono hB.size)
  try (refine wpList_nil ?_)
  refine' tlGd hF rfl rfl rfl rfl rfl (cMove rfl rfl) ?_
  intro a e9 hF hb
  replace hB := hB.trans (hb.mono hB.size)
  refine' tlGd hF rfl rfl rfl rfl rfl (OpOk.b (c := true) (cEql rfl rfl rfl) (decide_eq_true rfl)) ?_
  intro a e10 hF hb
  replace hB := hB.trans (hb.mono hB.size)
  refine' tlOp hF rfl rfl rfl ?_ ?_
  rotate_left
  · exact cPickT rfl rfl rfl
  intro a e11 hF hb
  have hBs := hB.size
  replace hB := hB.trans (hb.mono hB.size)
  try (refine wpList_nil ?_)
  refine' tlOp hF rfl rfl rfl ?_ ?_
  rotate_left
  · exact cMove rfl rfl
  intro a e12 hF hb
  have hBs := hB.size
  replace hB := hB.trans (hb.mono hB.size)
  try (refine wpList_nil ?_)
  refine' tlGd hF rfl rfl rfl rfl rfl (cMove rfl rfl) ?_
  intro a e13 hF hb
  replace hB := hB.trans (hb.mono hB.size)
  refine' tlGd hF rfl rfl rfl rfl rfl (OpOk.b (c := true) (cEql rfl rfl rfl) (decide_eq_true rfl)) ?_
  intro a e14 hF hb
  replace hB := hB.trans (hb.mono hB.size)
  refine' tlOp hF rfl rfl rfl ?_ ?_
  rotate_left
  · exact cPickT rfl rfl rfl
  intro a e15 hF hb
  have hBs := hB.size
  replace hB := hB.trans (hb.mono hB.size)
  try (refine wpList_nil ?_)
  refine' tlOp hF rfl rfl rfl ?_ ?_
  rotate_left
  · exact cMove rfl rfl
  intro a e16 hF hb
  have hBs := hB.size
  replace hB := hB.trans (hb.mono hB.size)
  try (refine wpList_nil ?_)
  refine' tlGd hF rfl rfl rfl rfl rfl (cMove rfl rfl) ?_
  intro a e17 hF hb
  replace hB := hB.trans (hb.mono hB.size)
  refine' tlGd hF rfl rfl rfl rfl rfl (OpOk.b (c := true) (cEql rfl rfl rfl) (decide_eq_true rfl)) ?_
  intro a e18 hF hb
  replace hB := hB.trans (hb.mono hB.size)
  refine' tlOp hF rfl rfl rfl ?_ ?_
  rotate_left
  · exact cPickT rfl rfl rfl
  intro a e19 hF hb
  have hBs := hB.size
  replace hB := hB.trans (hb.mono hB.size)
  try (refine wpList_nil ?_)
  refine' tlOp hF rfl rfl rfl ?_ ?_
  rotate_left
  · exact cMove rfl rfl
  intro a e20 hF hb
  have hBs := hB.size
  replace hB := hB.trans (hb.mono hB.size)
  try (refine wpList_nil ?_)
  refine' tlGd hF rfl rfl rfl rfl rfl (cMove rfl rfl) ?_
  intro a e21 hF hb
  replace hB := hB.trans (hb.mono hB.size)
  refine' tlGd hF rfl rfl rfl rfl rfl (OpOk.b (c := true) (cEql rfl rfl rfl) (decide_eq_true rfl)) ?_
  intro a e22 hF hb
  replace hB := hB.trans (hb.mono hB.size)
  refine' tlOp hF rfl rfl rfl ?_ ?_
  rotate_left
  · exact cPickT rfl rfl rfl
  intro a e23 hF hb
  have hBs := hB.size
  replace hB := hB.trans (hb.mono hB.size)
  try (refine wpList_nil ?_)
  refine' tlOp hF rfl rfl rfl ?_ ?_
  rotate_left
  · exact cMove rfl rfl
  intro a e24 hF hb
  have hBs := hB.size
  replace hB := hB.trans (hb.mono hB.size)
  try (refine wpList_nil ?_)
  refine' tlGd hF rfl rfl rfl rfl rfl (cMove rfl rfl) ?_
  intro a e25 hF hb
  replace hB := hB.trans (hb.mono hB.size)
  have k11r := (Ty.rdB _).below k11 hB
  refine' tlGd hF rfl rfl rfl rfl rfl (cLenH rfl (.l rfl k11r) (rdB_isSl []) Try.underlying22) ?_
  intro a e26 hF hb
  replace hB := hB.trans (hb.mono hB.size)
  refine' tlGd hF rfl rfl rfl rfl rfl (OpOk.b (c := true) (cEql rfl rfl rfl) (decide_eq_true rfl)) ?_
  intro a e27 hF hb
  replace hB := hB.trans (hb.mono hB.size)
  refine' tlOp hF rfl rfl rfl ?_ ?_
  rotate_left
  · exact cPickT rfl rfl rfl
  intro a e28 hF hb
  have hBs := hB.size
  replace hB := hB.trans (hb.mono hB.size)
  try (refine wpList_nil ?_)
  refine' tlOp hF rfl rfl rfl ?_ ?_
  rotate_left
  · exact cMove rfl rfl
  intro a e29 hF hb
  have hBs := hB.size
  replace hB := hB.trans (hb.mono hB.size)
  try (refine wpList_nil ?_)
  have xEr := (Ty.pcP _).below xE hB
  refine' tlGd hF rfl rfl rfl rfl rfl (cLoadQ rfl (.l rfl xEr) Try.underlying29 rfl sizePc) ?_
  intro a e30 hF hb
  replace hB := hB.trans (hb.mono hB.size)
  refine' tlGd hF rfl rfl rfl rfl rfl (cCallH1 rfl (.t rfl) hGE) ?_
  intro a e31 hF hb
  replace hB := hB.trans (hb.mono hB.size)
  refine' tlGd hF rfl rfl rfl rfl rfl (cNot rfl rfl) ?_
  intro a e32 hF hb
  replace hB := hB.trans (hb.mono hB.size)
  refine' tlOp hF rfl rfl rfl ?_ ?_
  rotate_left
  · exact cPickT rfl rfl rfl
  intro a e33 hF hb
  have hBs := hB.size
  replace hB := hB.trans (hb.mono hB.size)
  try (refine wpList_nil ?_)
  refine' tlOp hF rfl rfl rfl ?_ ?_
  rotate_left
  · exact cMove rfl rfl
  intro a e34 hF hb
  have hBs := hB.size
  replace hB := hB.trans (hb.mono hB.size)
  try (refine wpList_nil ?_)
  have xNr := (Ty.pcP _).below xN hB
  refine' tlGd hF rfl rfl rfl rfl rfl (cLoadQ rfl (.l rfl xNr) Try.underlying29 rfl sizePc) ?_
  intro a e35 hF hb
  replace hB := hB.trans (hb.mono hB.size)
  refine' tlGd hF rfl rfl rfl rfl rfl (cCallH1 rfl (.t rfl) hGn) ?_
  intro a e36 hF hb
  replace hB := hB.trans (hb.mono hB.size)
  refine' tlGd hF rfl rfl rfl rfl rfl (cNot rfl rfl) ?_
  intro a e37 hF hb
  replace hB := hB.trans (hb.mono hB.size)
  refine' tlOp hF rfl rfl rfl ?_ ?_
  rotate_left
  · exact cPickT rfl rfl rfl
  intro a e38 hF hb
  have hBs := hB.size
  replace hB := hB.trans (hb.mono hB.size)
  try (refine wpList_nil ?_)
  refine' tlOp hF rfl rfl rfl ?_ ?_
  rotate_left
  · exact cMove rfl rfl
  intro a e39 hF hb
  have hBs := hB.size
  replace hB := hB.trans (hb.mono hB.size)
  try (refine wpList_nil ?_)
  have pBr := (Ty.pcP _).below pB hB
  refine' tlGd hF rfl rfl rfl rfl rfl (cLoadQ rfl (.l rfl pBr) Try.underlying29 rfl sizePc) ?_
  intro a e40 hF hb
  replace hB := hB.trans (hb.mono hB.size)
  refine' tlGd hF rfl rfl rfl rfl rfl (cCallH1 rfl (.t rfl) hGB) ?_
  intro a e41 hF hb
  replace hB := hB.trans (hb.mono hB.size)
  refine' tlGd hF rfl rfl rfl rfl rfl (cNot rfl rfl) ?_
  intro a e42 hF hb
  replace hB := hB.trans (hb.mono hB.size)
  refine' tlOp hF rfl rfl rfl ?_ ?_
  rotate_left
  · exact cPickT rfl rfl rfl
  intro a e43 hF hb
  have hBs := hB.size
  replace hB := hB.trans (hb.mono hB.size)
  try (refine wpList_nil ?_)
  refine' tlOp hF rfl rfl rfl ?_ ?_
  rotate_left
  · exact cMove rfl rfl
  intro a e44 hF hb
  have hBs := hB.size
  replace hB := hB.trans (hb.mono hB.size)
  try (refine wpList_nil ?_)
  have pAr := (Ty.pcP _).below pA hB
  refine' tlGd hF rfl rfl rfl rfl rfl (cLoadQ rfl (.l rfl pAr) Try.underlying29 rfl sizePc) ?_
  intro a e45 hF hb
  replace hB := hB.trans (hb.mono hB.size)
  refine' tlGd hF rfl rfl rfl rfl rfl (cCallH1 rfl (.t rfl) hGA) ?_
  intro a e46 hF hb
  replace hB := hB.trans (hb.mono hB.size)
  refine' tlOp hF rfl rfl rfl ?_ ?_
  rotate_left
  · exact cPickT rfl rfl rfl
  intro a e47 hF hb
  have hBs := hB.size
  replace hB := hB.trans (hb.mono hB.size)
  try (refine wpList_nil ?_)
  refine' tlOp hF rfl rfl rfl ?_ ?_
  rotate_left
  · exact cMove rfl rfl
  intro a e48 hF hb
  have hBs := hB.size
  replace hB := hB.trans (hb.mono hB.size)
  try (refine wpList_nil ?_)
  refine' tlGd hF rfl rfl rfl rfl rfl (cCallH1 rfl (.l rfl (nil_rdB _)) hC0) ?_
  intro a e49 hF hb
  replace hB := hB.trans (hb.mono hB.size)
  refine' tlGd hF rfl rfl rfl rfl rfl (cLenH rfl (.t rfl) (pcs_isSl _) Try.underlying24) ?_
  intro a e50 hF hb
  replace hB := hB.trans (hb.mono hB.size)
  refine' tlGd hF rfl rfl rfl rfl rfl (OpOk.b (c := true) (cEql rfl rfl rfl) (decide_eq_true rfl)) ?_
  intro a e51 hF hb
  replace hB := hB.trans (hb.mono hB.size)
  refine' tlOp hF rfl rfl rfl ?_ ?_
  rotate_left
  · exact cPickT rfl rfl rfl
  intro a e52 hF hb
  have hBs := hB.size
  replace hB := hB.trans (hb.mono hB.size)
  try (refine wpList_nil ?_)
  refine' tlOp hF rfl rfl rfl ?_ ?_
  rotate_left
  · exact cMove rfl rfl
  intro a e53 hF hb
  have hBs := hB.size
  replace hB := hB.trans (hb.mono hB.size)
  try (refine wpList_nil ?_)
  refine tlConstB (n := 1) (vs := [bv 97]) hF rfl rfl rfl (fun a => by simp [Act.eval, bv]) rfl (bv_cells [97]) Try.underlying22 Try.underlying5 infoU8c rfl rfl rfl (by decide) ?_ (g1 := .inr ⟨_, _, rfl, rfl, rfl⟩) (g2 := .inr ⟨_, _, rfl, rfl, rfl⟩)
  intro a e54 hF hb
  replace hB := hB.trans (hb.mono hB.size)
  refine tlConstB (n := 1) (vs := [bv 97]) hF rfl rfl rfl (fun a => by simp [Act.eval, bv]) rfl (bv_cells [97]) Try.underlying22 Try.underlying5 infoU8c rfl rfl rfl (by decide) ?_ (g1 := .inr ⟨_, _, rfl, rfl, rfl⟩) (g2 := .inr ⟨_, _, rfl, rfl, rfl⟩)
  intro a e55 hF hb
  replace hB := hB.trans (hb.mono hB.size)
  refine tlConstB (n := 1) (vs := [bv 98]) hF rfl rfl rfl (fun a => by simp [Act.eval, bv]) rfl (bv_cells [98]) Try.underlying22 Try.underlying5 infoU8c rfl rfl rfl (by decide) ?_ (g1 := .inr ⟨_, _, rfl, rfl, rfl⟩) (g2 := .inr ⟨_, _, rfl, rfl, rfl⟩)
  intro a e56 hF hb
  replace hB := hB.trans (hb.mono hB.size)
  refine' tlGd hF rfl rfl rfl rfl rfl (cBuildT (τs := [Ty.rdB [97], Ty.rdB [97], Ty.rdB [98]]) rfl (partsT3 rfl (Has.c (.t rfl) (sl_rdB [97])) (Has.c (.t rfl) (sl_rdB [97])) (Has.c (.t rfl) (sl_rdB [98])) (rdB_isSl _) (rdB_isSl _) (rdB_isSl _)) Try.underlying57 infoB rfl) ?_
  intro a e57 hF hb
  replace hB := hB.trans (hb.mono hB.size)
  refine' tlGd hF rfl rfl rfl rfl rfl (cCallH1 rfl (Has.c (.t rfl) (slT_blsP [[97], [97], [98]] (by simp [maxLen]))) hAll3) ?_
  intro a e58 hF hb
  replace hB := hB.trans (hb.mono hB.size)
  refine' tlGd hF rfl rfl rfl rfl rfl (cLenH rfl (.t rfl) (Ty.sl_isSl _ _ _) Try.underlying51) ?_
  intro a e59 hF hb
  replace hB := hB.trans (hb.mono hB.size)
  refine' tlGd hF rfl rfl rfl rfl rfl (OpOk.b (c := true) (cEql rfl rfl rfl) (decide_eq_true (by rw [hL3]; rfl))) ?_
  intro a e60 hF hb
  replace hB := hB.trans (hb.mono hB.size)
  refine' tlOp hF rfl rfl rfl ?_ ?_
  rotate_left
  · exact cPickT rfl rfl rfl
  intro a e61 hF hb
  have hBs := hB.size
  replace hB := hB.trans (hb.mono hB.size)
  try (refine wpList_nil ?_)
  refine' tlOp hF rfl rfl rfl ?_ ?_
  rotate_left
  · exact cMove rfl rfl
  intro a e62 hF hb
  have hBs := hB.size
  replace hB := hB.trans (hb.mono hB.size)
  try (refine wpList_nil ?_)
  refine tlConstB (n := 1) (vs := [bv 97]) hF rfl rfl rfl (fun a => by simp [Act.eval, bv]) rfl (bv_cells [97]) Try.underlying22 Try.underlying5 infoU8c rfl rfl rfl (by decide) ?_ (g1 := .inr ⟨_, _, rfl, rfl, rfl⟩) (g2 := .inr ⟨_, _, rfl, rfl, rfl⟩)
  intro a e63 hF hb
  replace hB := hB.trans (hb.mono hB.size)
  refine tlConstB (n := 1) (vs := [bv 98]) hF rfl rfl rfl (fun a => by simp [Act.eval, bv]) rfl (bv_cells [98]) Try.underlying22 Try.underlying5 infoU8c rfl rfl rfl (by decide) ?_ (g1 := .inr ⟨_, _, rfl, rfl, rfl⟩) (g2 := .inr ⟨_, _, rfl, rfl, rfl⟩)
  intro a e64 hF hb
  replace hB := hB.trans (hb.mono hB.size)
  refine' tlGd hF rfl rfl rfl rfl rfl (cBuildT (τs := [Ty.rdB [97], Ty.rdB [98]]) rfl (partsT2 rfl (Has.c (.t rfl) (sl_rdB [97])) (Has.c (.t rfl) (sl_rdB [98])) (rdB_isSl _) (rdB_isSl _)) Try.underlying57 infoB rfl) ?_
  intro a e65 hF hb
  replace hB := hB.trans (hb.mono hB.size)
  refine' tlGd hF rfl rfl rfl rfl rfl (cCallH1 rfl (Has.c (.t rfl) (slT_blsP [[97], [98]] (by simp [maxLen]))) hAll2) ?_
  intro a e66 hF hb
  replace hB := hB.trans (hb.mono hB.size)
  refine' tlGd hF rfl rfl rfl rfl rfl (cCallH1 rfl (.t rfl) hG2) ?_
  intro a e67 hF hb
  replace hB := hB.trans (hb.mono hB.size)
  refine' tlOp hF rfl rfl rfl ?_ ?_
  rotate_left
  · exact cPickT rfl rfl rfl
  intro a e68 hF hb
  have hBs := hB.size
  replace hB := hB.trans (hb.mono hB.size)
  try (refine wpList_nil ?_)
  refine' tlOp hF rfl rfl rfl ?_ ?_
  rotate_left
  · exact cMove rfl rfl
  intro a e69 hF hb
  have hBs := hB.size
  replace hB := hB.trans (hb.mono hB.size)
  try (refine wpList_nil ?_)
  refine' tlGd hF rfl rfl rfl rfl rfl (cCallH1 rfl (.l rfl (nil_blsR _)) hAll0) ?_
  intro a e70 hF hb
  replace hB := hB.trans (hb.mono hB.size)
  refine' tlGd hF rfl rfl rfl rfl rfl (cLenH rfl (.t rfl) (Ty.sl_isSl _ _ _) Try.underlying51) ?_
  intro a e71 hF hb
  replace hB := hB.trans (hb.mono hB.size)
  refine' tlGd hF rfl rfl rfl rfl rfl (OpOk.b (c := true) (cEql rfl rfl rfl) (decide_eq_true rfl)) ?_
  intro a e72 hF hb
  replace hB := hB.trans (hb.mono hB.size)
  refine' tlOp hF rfl rfl rfl ?_ ?_
  rotate_left
  · exact cPickT rfl rfl rfl
  intro a e73 hF hb
  have hBs := hB.size
  replace hB := hB.trans (hb.mono hB.size)
  try (refine wpList_nil ?_)
  refine' tlOp hF rfl rfl rfl ?_ ?_
  rotate_left
  · exact cAssign rfl rfl
  intro a e74 hF hb
  have hBs := hB.size
  replace hB := hB.trans (hb.mono hB.size)
  try (refine wpList_nil ?_)
  repeat with_reducible first | refine nThen ?_ | refine wp_ret ?_
  refine ret1 hF rfl rfl fun z hz => ?_
  exact ⟨by rw [show z = .bool true from hz], hB0.trans ((hBd.trans (hB.mono hd5)).mono hw5)⟩
end Go.Proofs.Ytbjlmhbpcopfbaa
