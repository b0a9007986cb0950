/- Joined: ChunkS, RowBc. -/
import Derived.Test.YtbjlmhbpcopfbaaZChunkSays3
/- Chunks: the walk of ChunkSays. -/
namespace Go.Proofs.Ytbjlmhbpcopfbaa
open Go.RowKit

section
variable {P : Program} {ops : Array Oper} {Q : Exit → Act → World → Prop} {rest : List Oper} {o : Oper} {a : Act} {w w0 : World} {N : Nat} {Γ : Ctx}
theorem tlAppendM {d : Nat} {s : Nat} {x : Operand} {t e : TypeId} {z : Value} {sz bytes n m : Nat} {v : Value} {xs news : List Value} {S : List Nat} {Δ : Ctx} {τ : Ty} (hF : Fr N Γ a w) (hm : Met ops Γ o) (hd : o.dst = some d) (hN : decide (d < N) = true)
    (ho : o.op = .call { callee := .builtin .append, args := #[.tmp s, x], argTypes := #[t, t] }) (ht : P.underlying t = some (.slice e)) (hi : (P.info? e).map (fun i => (i.zero, i.size, i.bytes)) = some (some z, sz, bytes)) (hzs : z.cells.size = sz)
    (hs : look Γ s = some (Ty.ex v)) (hseg : Seg w e sz v n xs S) (hx : Has w Γ x τ) (hτ : ∀ u, τ.p w u → ∃ A c, u = .slice A m c ∧ (A = none → m = 0) ∧ Rd w A news) (hl : news.length = m * sz) (h1 : ∀ u ∈ news, u.oneCell' = true) (h63 : n + m ≤ maxLen) (hbytes : (n + m) * bytes ≤ 140737488355328)
    (hΔ : Fr N Δ a w) (hfree : Δ.free e = true)
    (hk : ∀ a' w' v' S', Fr N ((d, Ty.ex v') :: Δ) a' w' → Seg w' e sz v' (n + m) (xs ++ news) S' → Keeps S w w' → (S' = S ∨ S' = [w.heap.size]) → wpList P ops Q rest a' w') : wpList P ops Q (o :: rest) a w := by
  have hxv : ∃ u, a.eval x = u ∧ τ.p w u := by
    obtain ⟨σ, hx1, hx2⟩ := hx
    have : ∃ u, a.eval x = u ∧ σ.p w u := by
      cases x with
      | tmp s' => exact hF.get hx1
      | const c => exact ⟨c, rfl, by rw [← show Ty.ex c = σ from hx1]; rfl⟩
      | func f => exact ⟨_, rfl, by rw [← show Ty.ex _ = σ from hx1]; rfl⟩
      | «global» g => exact ⟨_, rfl, by rw [← show Ty.ex _ = σ from hx1]; rfl⟩
    obtain ⟨u, h2, h3⟩ := this
    exact ⟨u, h2, hx2 w u (Below.refl _ _) h3⟩
  obtain ⟨u, hu, hp⟩ := hxv
  obtain ⟨A, c, rfl, hA, hr⟩ := hτ u hp
  refine hm.step hF fun K hK => wp_append_seg w (.tmp s) x t ho e z sz bytes ht hi hzs v n xs S (hF.getEx hs) hseg A m c news hu hl hr hA h1 h63 hbytes fun v' w' S' h2 h3 h4 => ?_
  rw [hd]
  exact hK _ _ (hk _ w' v' S' ((hΔ.free h3 hseg.blocks hfree).put (of_decide_eq_true hN) (Below.refl _ _) rfl) h2 h3 h4)
theorem cNeqStr {t t2 : TypeId} {x y : Operand} {s r : ByteArray} (ho : o.op = .binOp .neq t x y t2) (hx : OpT Γ x (Ty.ex (.string s))) (hy : OpT Γ y (Ty.ex (.string r))) : OpOk P w0 Γ o (Ty.ex (.bool (!(s.toList == r.toList)))) :=
  cBin ho hx hy fun w => by simp [eqGuard, binOp, Op.stringOp]
/-- xs[lo:hi] of a slice that is a letter. -/
theorem cSliceX {t e : TypeId} {x lo hi : Operand} {A : Option Addr} {ad : Addr} {n c k j m sz : Nat} {kd kd2 : IntKind} (ho : o.op = .slice t x (some lo) (some hi) none) (hx : OpT Γ x (Ty.ex (.slice A n c))) (hl : OpT Γ lo (Ty.ex (.int kd (k : Int)))) (hh : OpT Γ hi (Ty.ex (.int kd2 (j : Int)))) (hu : P.underlying t = some (.slice e)) (hz : (P.info? e).map (·.size) = some sz) (hA : A = some ad) (hm : j = k + m) (hm1 : 1 ≤ m) (hj : j ≤ c) : OpOk P w0 Γ o (Ty.ex (.slice (some (ad.add (k * sz))) m (c - k))) :=
  .val fun a w _ hs => by
    obtain ⟨v, h1, h2⟩ := hs x _ (by simp [ho, Op.operands]) hx
    obtain ⟨i, h6, h7⟩ := hs lo _ (by simp [ho, Op.operands]) hl
    obtain ⟨i2, h8, h9⟩ := hs hi _ (by simp [ho, Op.operands]) hh
    subst hA
    have h2 : v = .slice (some ad) n c := h2
    have h7 : i = .int kd (k : Int) := h7
    have h9 : i2 = .int kd2 (j : Int) := h9
    obtain ⟨inf, hinf, hsz⟩ := Option.map_eq_some_iff.1 hz
    have hkj : k ≤ j := by omega
    have hkc : ¬ c = k := by omega
    have hjm : j - k = m := by omega
    refine ⟨_, rfl, ?_⟩
    unfold execOp
    simp [ho, h1, h2, h6, h7, h8, h9, Instr.sliceAt, Instr.slice, Instr.sliceBounds, Instr.sliceBound, asIntOf, run_underlying hu, sizeOf, typeInfo, hinf, hsz, hkj, hj, hkc, hjm]
end
theorem rd_newsQ {n : Nat} {xs : List Value} {w : World} : ∀ u, (Ty.rd n xs).p w u → ∃ A c, u = .slice A n c ∧ (A = none → n = 0) ∧ Rd w A xs := fun _ ⟨A, c, h1, _, h3, h4⟩ => ⟨A, c, h1, h3, h4⟩
theorem flatQ_app (A B : List (Sm × Value)) : flatQ (A ++ B) = flatQ A ++ flatQ B := by
  unfold flatQ
  rw [List.flatMap_append]
theorem Pcr.ones {w : World} {L : List (Sm × Value)} {Q : List (Sm × List Nat)} (h : Pcr w L Q) : ∀ u ∈ flatQ L, u.oneCell' = true := fun u hu => by
  unfold flatQ at hu
  obtain ⟨p, hp, hu⟩ := List.mem_flatMap.1 hu
  obtain ⟨k, hk, rfl⟩ := List.getElem_of_mem hp
  have h1 := (h.2 k (by rw [← h.1]; exact hk)).2
  rw [show L.getD k (Sm.zero, nilB) = L[k] by simp [List.getD, List.getElem?_eq_getElem hk]] at h1
  refine one_pc L[k].1 (rdB_slice h1) u ?_
  rw [flatQ_cons]
  exact List.mem_append_left _ hu
theorem Pcr.app {w : World} {L M : List (Sm × Value)} {Q R : List (Sm × List Nat)} (h : Pcr w L Q) (g : Pcr w M R) : Pcr w (L ++ M) (Q ++ R) := by
  refine ⟨by rw [List.length_append, List.length_append, h.1, g.1], fun k hk => ?_⟩
  rw [List.length_append] at hk
  by_cases hl : k < Q.length
  · rw [getD_app _ (h.1 ▸ hl), getD_app _ hl]
    exact h.2 k hl
  · have e1 : (L ++ M).getD k (Sm.zero, nilB) = M.getD (k - Q.length) (Sm.zero, nilB) := by simp [List.getD, List.getElem?_append_right (show L.length ≤ k by rw [h.1]; omega), h.1]
    have e2 : (Q ++ R).getD k (Sm.zero, []) = R.getD (k - Q.length) (Sm.zero, []) := by simp [List.getD, List.getElem?_append_right (show Q.length ≤ k by omega)]
    rw [e1, e2]
    exact g.2 _ (by omega)
theorem ivz_dropC {l : List Int} {k : Nat} (h : k < l.length) : (l.map ivz).drop (k * 1) = .int .i64 (l.getD k 0) :: (l.map ivz).drop (k + 1) := by
  have hl : k < (l.map ivz).length := by rw [List.length_map]; exact h
  rw [Nat.mul_one, List.drop_eq_getElem_cons hl]
  simp [List.getD, List.getElem?_eq_getElem h, ivz]
theorem goodQ_cut {b : List Nat} {k : Nat} (hk : k < (cutQ b).length) : goodQ ((cutQ b).getD k (Sm.zero, [])) = true := by
  have hm := getD_memQ hk
  generalize (cutQ b).getD k (Sm.zero, []) = q at *
  unfold cutQ at hm
  obtain ⟨p, hp, rfl⟩ := List.mem_map.1 hm
  have := pcsB_size b p hp
  unfold goodQ
  simp [this]
theorem cutQ_mem {b : List Nat} (hx : ∀ x ∈ b, x < 256) (hn : b.length ≤ 1000000) : ∀ q ∈ cutQ b, (∀ x ∈ q.2, x < 256) ∧ q.2.length ≤ 1000000 := fun q hq => by
  unfold cutQ at hq
  obtain ⟨p, hp, rfl⟩ := List.mem_map.1 hq
  have h := pcs_lt hx p hp
  exact ⟨h.1, by have := h.2; show p.length ≤ 1000000; omega⟩
/-- One piece of a row, as a row. -/
theorem pcsR_one {Q : List (Sm × List Nat)} {w : World} {ad : Addr} {n c k d : Nat} (h : (Ty.pcsR Q).p w (.slice (some ad) n c)) (hk : k < Q.length) : (Ty.pcsR [Q.getD k (Sm.zero, [])]).p w (.slice (some (ad.add (k * 33))) 1 d) := by
  obtain ⟨L, hL, A, c', e, h2, h3, h4⟩ := h
  injection e with e1 e2 e3
  subst e1
  have hkl : k < L.length := by rw [hL.1]; exact hk
  have hr := rd_add h4 (k * 33)
  rw [flatQ_at L hkl] at hr
  refine ⟨[L.getD k (Sm.zero, nilB)], ⟨rfl, fun j hj => ?_⟩, some (ad.add (k * 33)), d, rfl, by simp [maxLen], fun h => (by cases h), ?_⟩
  · simp only [List.length_singleton] at hj
    obtain rfl : j = 0 := by omega
    exact hL.2 k hk
  · rw [flatQ_cons]
    simp only [flatQ, List.flatMap_nil, List.append_nil]
    exact rd_pre hr
theorem slT_blsR {e : TypeId} (la lb : List Nat) : ∀ w v, (Ty.slT e 2 [Ty.rdB la, Ty.rdB lb]).p w v → (Ty.blsR [la, lb]).p w v := fun w v h => by
  obtain ⟨A, c, rfl, h2, h3, h4, h5⟩ := h
  obtain ⟨g, off, cs, fr, u, rfl, h6, h7, h8⟩ := h5 0 _ rfl
  obtain ⟨g', off', cs', fr', u', e2, h6', h7', h8'⟩ := h5 1 _ rfl
  injection e2 with e2
  injection e2 with e2 e3
  subst e2 e3
  rw [h6] at h6'
  injection h6' with h6'
  injection h6' with h6'
  subst h6'
  refine ⟨[u, u'], ⟨rfl, fun k hk => ?_⟩, _, c, rfl, by simp [maxLen], fun h => (by cases h), fun j z hz => ⟨_, rfl, ?_⟩⟩
  · match k, hk with
    | 0, _ => exact h8
    | 1, _ => exact h8'
  · rw [Addr.add_lit, cell_of_row w g (off + j) cs e fr h6]
    match j, hz with
    | 0, hz => rw [Nat.add_zero] at h7 ⊢; rw [h7]; exact hz
    | 1, hz => rw [h7']; exact hz
theorem wrap_u8 (z : Int) : ∃ c : Nat, IntKind.u8.wrap z = (c : Int) ∧ c < 256 := ⟨(z % 256).toNat, by simp [IntKind.wrap, IntKind.signed, IntKind.bits]; omega, by omega⟩
set_option maxRecDepth 100000 in
set_option maxHeartbeats 4000000 in
theorem lawChunkSays_any (la lb : List Nat) (l : List Int) (R0 : List (Sm × List Nat)) {W : World} {v0 v1 v2 : Value} {A3 : Option Addr} {n3 c3 : Nat} (h0 : (Ty.rdB la).p W v0) (h1 : (Ty.rdB lb).p W v1) (h2 : (Ty.rd l.length (l.map ivz)).p W v2) (h3 : (Ty.pcsR R0).p W (.slice A3 n3 c3)) (hc3 : n3 ≤ c3) (hxa : ∀ x ∈ la, x < 256) (hxb : ∀ x ∈ lb, x < 256) (hx3 : ∀ p ∈ R0, ∀ y ∈ p.2, y < 256) : Calls Try.prog 4 #[v0, v1, v2, .slice A3 n3 c3] W fun e w' => e = .returned (.bool true) ∧ Below W.heap.size W w' := by
  obtain rfl : n3 = R0.length := by obtain ⟨L, _, A, c, e, _⟩ := h3; injection e
  refine enter_ty 218 [Ty.ex v0, Ty.ex v1, Ty.ex v2, Ty.ex (.slice A3 R0.length c3)] Try.func4 rfl (by kernel_rfl) ⟨rfl, rfl, rfl, rfl, trivial⟩ fun a hF => ?_
  let TA := Ty.rdB la
  let TB := Ty.rdB lb
  let TI := Ty.rd l.length (l.map ivz)
  have h0 : TA.p W v0 := h0
  have h1 : TB.p W v1 := h1
  have h2 : TI.p W v2 := h2
  have hB := Below.refl W.heap.size W
  repeat with_reducible refine wp_seq ?_
  refine' reg_all hF ?_ mixed (by kernel_rfl) ?_
  rotate_left
  · repeat (first | exact Line.nil | ((refine' Line.cons rfl (.run rfl rfl ?_) ?_); (any_goals exact cAssign rfl rfl); rotate_left))
  intro a w1 hF hb hN
  have hBs := hB.size
  replace hB := hB.trans (hb.mono hB.size)
  dsimp only [ext, Option.getD] at hF
  repeat with_reducible first | refine wp_seq ?_ | refine nThen ?_
  refine' reg_all hF ?_ mixed (by kernel_rfl) ?_
  rotate_left
  · repeat (first | exact Line.nil | ((refine' Line.cons rfl (.run rfl rfl ?_) ?_); (any_goals (first | exact cNot rfl rfl | exact cCall0 rfl awake11_ty)); rotate_left))
  intro a w2 hF hb hN
  have hBs := hB.size
  replace hB := hB.trans (hb.mono hB.size)
  dsimp only [ext, Option.getD] at hF
  repeat with_reducible refine nThen ?_
  refine cond_f hF rfl ?_
  repeat with_reducible first | refine wp_seq ?_ | refine nThen ?_ | refine wp_skip ?_
  have k0 := TA.below h0 hB
  have k1 := TB.below h1 hB
  have k2 := TI.below h2 hB
  have k3 := (Ty.pcsR R0).below h3 hB
  by_cases c0 : la.length ≤ 1000
  rotate_left
  · refine' reg_all hF ?_ mixed (by kernel_rfl) ?_
    rotate_left
    · repeat (first | exact Line.nil | (refine' Line.cons rfl (.no rfl rfl rfl rfl rfl rfl) ?_; rotate_left) | ((refine' Line.cons rfl (.run rfl rfl ?_) ?_); (any_goals (first | exact cMove rfl rfl | exact cLenH rfl (.l rfl k0) (rdB_isSl la) Try.underlying22 | exact OpOk.b (c := true) (cGtr rfl rfl rfl) (decide_eq_true (by omega)) | exact cPickT rfl rfl rfl)); rotate_left))
    intro a w3 hF hb hN
    have hBs := hB.size
    replace hB := hB.trans (hb.mono hB.size)
    dsimp only [ext, Option.getD] at hF
    repeat with_reducible refine nThen ?_
    refine cond_t hF rfl ?_
    repeat with_reducible refine wp_seq ?_
    refine' reg_all hF ?_ mixed (by kernel_rfl) ?_
    rotate_left
    · repeat (first | exact Line.nil | ((refine' Line.cons rfl (.run rfl rfl ?_) ?_); (any_goals exact cAssign rfl rfl); rotate_left))
    intro a w4 hF hb hN
    have hBs := hB.size
    replace hB := hB.trans (hb.mono hB.size)
    dsimp only [ext, Option.getD] at hF
    repeat with_reducible first | refine nThen ?_ | refine wp_ret ?_ | refine rThen ?_
    refine ret1 hF rfl rfl fun z hz => ?_
    exact ⟨by rw [show z = .bool true from hz], hB⟩
  by_cases c1 : lb.length ≤ 1000
  rotate_left
  · refine' reg_all hF ?_ mixed (by kernel_rfl) ?_
    rotate_left
    · repeat (first | exact Line.nil | (refine' Line.cons rfl (.no rfl rfl rfl rfl rfl rfl) ?_; rotate_left) | ((first | refine' Line.cons rfl (.run rfl rfl ?_) ?_ | refine' Line.cons rfl (.yes rfl rfl rfl rfl ?_) ?_); (any_goals (first | exact cMove rfl rfl | exact cLenH rfl (.l rfl k0) (rdB_isSl la) Try.underlying22 | exact cLenH rfl (.l rfl k1) (rdB_isSl lb) Try.underlying22 | exact OpOk.b (c := false) (cGtr rfl rfl rfl) (decide_eq_false (by omega)) | exact OpOk.b (c := true) (cGtr rfl rfl rfl) (decide_eq_true (by omega)) | exact cPickT rfl rfl rfl | exact cPickF rfl rfl rfl)); rotate_left))
    intro a w3 hF hb hN
    have hBs := hB.size
    replace hB := hB.trans (hb.mono hB.size)
    dsimp only [ext, Option.getD] at hF
    repeat with_reducible refine nThen ?_
    refine cond_t hF rfl ?_
    repeat with_reducible refine wp_seq ?_
    refine' reg_all hF ?_ mixed (by kernel_rfl) ?_
    rotate_left
    · repeat (first | exact Line.nil | ((refine' Line.cons rfl (.run rfl rfl ?_) ?_); (any_goals exact cAssign rfl rfl); rotate_left))
    intro a w4 hF hb hN
    have hBs := hB.size
    replace hB := hB.trans (hb.mono hB.size)
    dsimp only [ext, Option.getD] at hF
    repeat with_reducible first | refine nThen ?_ | refine wp_ret ?_ | refine rThen ?_
    refine ret1 hF rfl rfl fun z hz => ?_
    exact ⟨by rw [show z = .bool true from hz], hB⟩
  by_cases c2 : R0.length ≤ 40
  rotate_left
  · refine' reg_all hF ?_ mixed (by kernel_rfl) ?_
    rotate_left
    · repeat (first | exact Line.nil | (refine' Line.cons rfl (.no rfl rfl rfl rfl rfl rfl) ?_; rotate_left) | ((first | refine' Line.cons rfl (.run rfl rfl ?_) ?_ | refine' Line.cons rfl (.yes rfl rfl rfl rfl ?_) ?_); (any_goals (first | exact cMove rfl rfl | exact cLenH rfl (.l rfl k0) (rdB_isSl la) Try.underlying22 | exact cLenH rfl (.l rfl k1) (rdB_isSl lb) Try.underlying22 | exact cLenH rfl (.l rfl k3) (pcsR_isSl R0) Try.underlying24 | exact OpOk.b (c := false) (cGtr rfl rfl rfl) (decide_eq_false (by omega)) | exact OpOk.b (c := true) (cGtr rfl rfl rfl) (decide_eq_true (by omega)) | exact cPickT rfl rfl rfl | exact cPickF rfl rfl rfl)); rotate_left))
    intro a w3 hF hb hN
    have hBs := hB.size
    replace hB := hB.trans (hb.mono hB.size)
    dsimp only [ext, Option.getD] at hF
    repeat with_reducible refine nThen ?_
    refine cond_t hF rfl ?_
    repeat with_reducible refine wp_seq ?_
    refine' reg_all hF ?_ mixed (by kernel_rfl) ?_
    rotate_left
    · repeat (first | exact Line.nil | ((refine' Line.cons rfl (.run rfl rfl ?_) ?_); (any_goals exact cAssign rfl rfl); rotate_left))
    intro a w4 hF hb hN
    have hBs := hB.size
    replace hB := hB.trans (hb.mono hB.size)
    dsimp only [ext, Option.getD] at hF
    repeat with_reducible first | refine nThen ?_ | refine wp_ret ?_ | refine rThen ?_
    refine ret1 hF rfl rfl fun z hz => ?_
    exact ⟨by rw [show z = .bool true from hz], hB⟩
  by_cases c4 : l.length ≤ 40
  rotate_left
  · refine' reg_all hF ?_ mixed (by kernel_rfl) ?_
    rotate_left
    · repeat (first | exact Line.nil | ((first | refine' Line.cons rfl (.run rfl rfl ?_) ?_ | refine' Line.cons rfl (.yes rfl rfl rfl rfl ?_) ?_); (any_goals (first | exact cMove rfl rfl | exact cLenH rfl (.l rfl k0) (rdB_isSl la) Try.underlying22 | exact cLenH rfl (.l rfl k1) (rdB_isSl lb) Try.underlying22 | exact cLenH rfl (.l rfl k3) (pcsR_isSl R0) Try.underlying24 | exact cLenH rfl (.l rfl k2) (Ty.rd_isSl _ _) Try.underlying31 | exact OpOk.b (c := false) (cGtr rfl rfl rfl) (decide_eq_false (by omega)) | exact OpOk.b (c := true) (cGtr rfl rfl rfl) (decide_eq_true (by omega)) | exact cPickF rfl rfl rfl)); rotate_left))
    intro a w3 hF hb hN
    have hBs := hB.size
    replace hB := hB.trans (hb.mono hB.size)
    dsimp only [ext, Option.getD] at hF
    repeat with_reducible refine nThen ?_
    refine cond_t hF rfl ?_
    repeat with_reducible refine wp_seq ?_
    refine' reg_all hF ?_ mixed (by kernel_rfl) ?_
    rotate_left
    · repeat (first | exact Line.nil | ((refine' Line.cons rfl (.run rfl rfl ?_) ?_); (any_goals exact cAssign rfl rfl); rotate_left))
    intro a w4 hF hb hN
    have hBs := hB.size
    replace hB := hB.trans (hb.mono hB.size)
    dsimp only [ext, Option.getD] at hF
    repeat with_reducible first | refine nThen ?_ | refine wp_ret ?_ | refine rThen ?_
    refine ret1 hF rfl rfl fun z hz => ?_
    exact ⟨by rw [show z = .bool true from hz], hB⟩
  have hC := ccut_ty la (by omega) hxa
  have hRC := rcut_ty la (by omega) hxa
  have hNa := names_ty la (by omega) hxa
  have hRa := rnames_ty la (by omega) hxa
  have hSa := rnames_seg la (by omega) hxa
  have hRb := rnames_ty lb (by omega) hxb
  have hAll := call_ty [la, lb] (by intro p hp; simp only [List.mem_cons, List.not_mem_nil, or_false] at hp; rcases hp with rfl | rfl <;> omega) (by simp) (by intro p hp; simp only [List.mem_cons, List.not_mem_nil, or_false] at hp; rcases hp with rfl | rfl; exact hxa; exact hxb)
  have eAll : allN [la, lb] = nmsQ (cutQ la) ++ nmsQ (cutQ lb) := by simp [allN, nmsB]
  rw [eAll] at hAll
  have hgq := @goodQ_cut la
  have hmq := cutQ_mem hxa (by omega)
  have hQl : (cutQ la).length ≤ 1000 := by unfold cutQ; rw [List.length_map]; exact Nat.le_trans (pcsB_len la) c0
  have hRl : (cutQ lb).length ≤ 1000 := by unfold cutQ; rw [List.length_map]; exact Nat.le_trans (pcsB_len lb) c1
  have hnl : (nmsQ (cutQ la)).length ≤ 1000 := by unfold nmsQ; rw [List.length_map]; exact hQl
  have hnlb : (nmsQ (cutQ lb)).length ≤ 1000 := by unfold nmsQ; rw [List.length_map]; exact hRl
  generalize nmsQ (cutQ la) = Na at *
  generalize nmsQ (cutQ lb) = Nb at *
  generalize cutQ la = Q at *
  generalize cutQ lb = Q' at *
  have hsame := sums11_same Na (by omega)
  refine' reg_all hF ?_ mixed (by kernel_rfl) ?_
  rotate_left
  · repeat (first | exact Line.nil | ((first | refine' Line.cons rfl (.run rfl rfl ?_) ?_ | refine' Line.cons rfl (.yes rfl rfl rfl rfl ?_) ?_); (any_goals (first | exact cMove rfl rfl | exact cLenH rfl (.l rfl k0) (rdB_isSl la) Try.underlying22 | exact cLenH rfl (.l rfl k1) (rdB_isSl lb) Try.underlying22 | exact cLenH rfl (.l rfl k3) (pcsR_isSl R0) Try.underlying24 | exact cLenH rfl (.l rfl k2) (Ty.rd_isSl _ _) Try.underlying31 | exact OpOk.b (c := false) (cGtr rfl rfl rfl) (decide_eq_false (by omega)) | exact cPickF rfl rfl rfl)); rotate_left))
  intro a w3 hF hb hN
  have hBs := hB.size
  replace hB := hB.trans (hb.mono hB.size)
  dsimp only [ext, Option.getD] at hF
  repeat with_reducible refine nThen ?_
  refine cond_f hF rfl ?_
  repeat with_reducible first | refine wp_seq ?_ | refine nThen ?_ | refine wp_skip ?_
  have k0 := TA.below h0 hB
  refine' reg_all hF ?_ mixed (by kernel_rfl) ?_
  rotate_left
  · repeat (first | exact Line.nil | ((refine' Line.cons rfl (.run rfl rfl ?_) ?_); (any_goals (first | exact cMove rfl rfl | exact cAssign rfl rfl | exact cCallH1 rfl (.l rfl k0) hC)); rotate_left))
  intro a w4 hF hb hN
  have hBs := hB.size
  replace hB := hB.trans (hb.mono hB.size)
  dsimp only [ext, Option.getD] at hF
  repeat with_reducible first | refine wp_seq ?_ | refine nThen ?_
  have k0 := TA.below h0 hB
  refine' reg_all hF ?_ mixed (by kernel_rfl) ?_
  rotate_left
  · repeat (first | exact Line.nil | ((refine' Line.cons rfl (.run rfl rfl ?_) ?_); (any_goals (first | exact cMove rfl rfl | exact cAssign rfl rfl | exact cCallH1 rfl (.l rfl k0) hRC)); rotate_left))
  intro a w5 hF hb hN
  have hBs := hB.size
  replace hB := hB.trans (hb.mono hB.size)
  dsimp only [ext, Option.getD] at hF
  repeat with_reducible first | refine wp_seq ?_ | refine nThen ?_
  obtain ⟨v9, k9, hF⟩ := hF.open (s := 9) rfl
  obtain ⟨v10, k10, hF⟩ := hF.open (s := 10) rfl
  have k9 := pcs_pcsR Q _ _ k9
  have k0 := TA.below h0 hB
  have hw5 := hB.size
  refine' reg_all hF ?_ mixed (by kernel_rfl) ?_
  rotate_left
  · repeat (first | exact Line.nil | ((first | refine' Line.cons rfl (.run rfl rfl ?_) ?_ | refine' Line.cons rfl (.yes rfl rfl rfl rfl ?_) ?_); (any_goals (first | exact cMove rfl rfl | exact cNot rfl rfl | exact cLenH rfl (.l rfl k9) (pcsR_isSl Q) Try.underlying24 | exact cLenH rfl (.l rfl k10) (pcsR_isSl Q) Try.underlying32 | exact OpOk.b (c := false) (cNeq rfl rfl rfl) (by simp) | exact cCallH1 rfl (.l rfl k0) hNa | exact cCallH1 rfl (.l rfl k0) hRa | exact cCallH2 rfl (.t rfl) (.t rfl) hsame | exact cPickF rfl rfl rfl)); rotate_left))
  intro a w6 hF hb hN
  have hBs := hB.size
  replace hB := hB.trans (hb.mono hB.size)
  dsimp only [ext, Option.getD] at hF
  repeat with_reducible refine nThen ?_
  refine cond_f hF rfl ?_
  replace k9 := (Ty.pcsR Q).below k9 hb
  replace k10 := (Ty.pcsR Q).below k10 hb
  repeat with_reducible first | refine wp_seq ?_ | refine nThen ?_ | refine wp_skip ?_
  refine' reg_all hF ?_ mixed (by kernel_rfl) ?_
  rotate_left
  · repeat (first | exact Line.nil | ((refine' Line.cons rfl (.run rfl rfl ?_) ?_); (any_goals exact cAssign rfl rfl); rotate_left))
  intro a w7 hF hb hN
  have hBs := hB.size
  replace hB := hB.trans (hb.mono hB.size)
  dsimp only [ext, Option.getD] at hF
  repeat with_reducible first | refine nThen ?_ | refine wp_block ?_
  replace k9 := (Ty.pcsR Q).below k9 hb
  replace k10 := (Ty.pcsR Q).below k10 hb
  have hB0 := hB
  have hw7 := hB.size
  have b0 := TA.below h0 hB
  have b1 := TB.below h1 hB
  have b2 := TI.below h2 hB
  have b3 := (Ty.pcsR R0).below h3 hB
  replace hB := Below.refl w7.heap.size w7
  refine loop_ty (fun m a wr => ∃ (k : Nat), k + m = Q.length ∧ Fr 218 [(0, Ty.ex v0), (1, Ty.ex v1), (2, Ty.ex v2), (3, Ty.ex (.slice A3 R0.length c3)), (9, Ty.ex v9), (10, Ty.ex v10), (11, Ty.ex (.int .i64 (k : Int)))] a wr ∧ Below w7.heap.size w7 wr) Q.length ?_ ?_
  · exact ⟨0, by omega, hF.keep [0, 1, 2, 3, 9, 10, 11], hB⟩
  clear hF hB
  rintro m a wr ⟨k, hk, hF, hB⟩
  have k9r := (Ty.pcsR Q).below k9 hB
  repeat with_reducible refine wp_seq ?_
  refine' reg_all hF ?_ mixed (by kernel_rfl) ?_
  rotate_left
  · repeat (first | exact Line.nil | ((refine' Line.cons rfl (.run rfl rfl ?_) ?_); (any_goals (first | exact cMove rfl rfl | exact cLenH rfl (.l rfl k9r) (pcsR_isSl Q) Try.underlying24 | exact cLss rfl rfl rfl)); rotate_left))
  intro a w8 hF hb hN
  have hBs := hB.size
  replace hB := hB.trans (hb.mono hB.size)
  dsimp only [ext, Option.getD] at hF
  repeat with_reducible refine nThen ?_
  refine cond_ty hF rfl (fun hlt => ?_) (fun hge => ?_)
  · have hlt : k < Q.length := by have := of_decide_eq_true hlt; omega
    obtain ⟨g1, g2⟩ := hmq _ (getD_memQ hlt)
    have hG := goodq_ty (Q.getD k (Sm.zero, [])) g1 g2
    rw [hgq hlt] at hG
    have k9r := (Ty.pcsR Q).below k9 hB
    have k10r := (Ty.pcsR Q).below k10 hB
    repeat with_reducible first | refine wp_seq ?_ | refine nThen ?_ | refine wp_skip ?_ | refine wp_block ?_
    refine' reg_all hF ?_ mixed (by kernel_rfl) ?_
    rotate_left
    · repeat (first | exact Line.nil | ((first | refine' Line.cons rfl (.run rfl rfl ?_) ?_ | refine' Line.cons rfl (.yes rfl rfl rfl rfl ?_) ?_); (any_goals (first | exact cMove rfl rfl | exact cNot rfl rfl | exact cIdxQ rfl (.l rfl k9r) rfl Try.underlying24 sizePc hlt | exact cIdxQ rfl (.l rfl k10r) rfl Try.underlying32 sizeRi hlt | exact cFldQ0 rfl (.t rfl) Try.underlying29 rfl sizeS | exact cFldQ0 rfl (.t rfl) Try.underlying41 rfl sizeR | exact cFldQ1 rfl (.t rfl) Try.underlying29 rfl sizeB1 | exact cFldQ1 rfl (.t rfl) Try.underlying41 rfl sizeB1 | exact cLoadQB rfl (.t rfl) Try.underlying22 rfl | exact cLoadSumR rfl (.t rfl) Try.underlying27 sizeS | exact cLoadQ rfl (.t rfl) Try.underlying29 rfl sizePc | exact OpOk.b (c := false) (cNeqAgg rfl rfl rfl guardR (neqR _ _)) (by rw [decide_eq_true rfl]; rfl) | exact cStrOf rfl (.t rfl) Try.underlying22 Try.underlying5 Try.underlying9 | exact OpOk.b (c := false) (cNeqStr rfl rfl rfl) (by rw [beq_self_eq_true]; rfl) | exact cCallH1 rfl (.t rfl) hG | exact cPickF rfl rfl rfl)); rotate_left))
    intro a w9 hF hb hN
    have hBs := hB.size
    replace hB := hB.trans (hb.mono hB.size)
    dsimp only [ext, Option.getD] at hF
    repeat with_reducible refine nThen ?_
    refine cond_f hF rfl ?_
    repeat with_reducible first | refine nThen ?_ | refine nBlk ?_ | refine wp_skip ?_
    refine' reg_all hF ?_ mixed (by kernel_rfl) ?_
    rotate_left
    · repeat (first | exact Line.nil | ((refine' Line.cons rfl (.run rfl rfl ?_) ?_); (any_goals (first | exact cMove rfl rfl | exact cAssign rfl rfl | exact cAdd (r := ((k + 1 : Nat) : Int)) rfl rfl rfl (by omega))); rotate_left))
    intro a w10 hF hb hN
    have hBs := hB.size
    replace hB := hB.trans (hb.mono hB.size)
    dsimp only [ext, Option.getD] at hF
    repeat with_reducible refine nThen ?_
    exact ⟨m - 1, by omega, k + 1, by omega, hF.keep [0, 1, 2, 3, 9, 10, 11], hB⟩
  clear hk hge hgq
  obtain ⟨L9, p9, r9⟩ := id k9
  obtain ⟨L3, p3, r3⟩ := id b3
  have hw8 := hB.size
  repeat with_reducible first | refine wp_seq ?_ | refine nThen ?_ | refine wp_exit ?_ | refine xThen ?_ | refine xHere ?_
  refine wp_region_lit ?_
  refine' tlOp hF rfl rfl rfl ?_ ?_
  rotate_left
  · exact cBuild0 rfl Try.underlying24 infoPc
  intro a w9 hF hb
  have hBs := hB.size
  replace hB := hB.trans (hb.mono hB.size)
  try (refine wpList_nil ?_)
  obtain ⟨v97, ⟨S97, hseg, hS97⟩, hF⟩ := hF.open (s := 97) rfl
  have hS97 : ∀ y ∈ S97, w7.heap.size ≤ y := fun y hy => Nat.le_trans hw8 (hS97 y hy)
  refine' tlOp hF rfl rfl rfl ?_ ?_
  rotate_left
  · exact cMove rfl rfl
  intro a w10 hF hb
  have hBs := hB.size
  replace hB := hB.trans (hb.mono hB.size)
  try (refine wpList_nil ?_)
  replace hseg := hseg.below hb
  have r9r := (Ty.rd _ _).below r9 hB
  refine tlAppend (Δ := [(0, Ty.ex v0), (1, Ty.ex v1), (2, Ty.ex v2), (3, Ty.ex (.slice A3 R0.length c3))]) (n := 0) (m := Q.length) (news := flatQ L9) hF rfl rfl rfl rfl Try.underlying24 infoPc (pcA_size _ _) rfl hseg (.l rfl r9r) rd_newsQ (by rw [flatQ_len, p9.1]) p9.ones (by simp [maxLen]; omega) (by omega) (hF.keep [0, 1, 2, 3]) rfl ?_
  intro a w11 v99 S99 hF hseg99 hk11 hS99
  have hb99 := own_next hB hS97 hS99
  replace hB := below_own hB hk11 hS97
  rw [Nat.zero_add, List.nil_append] at hseg99
  refine' tlOp hF rfl rfl rfl ?_ ?_
  rotate_left
  · exact cMove rfl rfl
  intro a w12 hF hb
  have hBs := hB.size
  replace hB := hB.trans (hb.mono hB.size)
  try (refine wpList_nil ?_)
  replace hseg99 := hseg99.below hb
  have r3r := (Ty.rd _ _).below r3 hB
  refine tlAppend (Δ := [(0, Ty.ex v0), (1, Ty.ex v1), (2, Ty.ex v2), (3, Ty.ex (.slice A3 R0.length c3))]) (n := Q.length) (m := R0.length) (news := flatQ L3) hF rfl rfl rfl rfl Try.underlying24 infoPc (pcA_size _ _) rfl hseg99 (.l rfl r3r) rd_newsQ (by rw [flatQ_len, p3.1]) p3.ones (by simp [maxLen]; omega) (by omega) (hF.keep [0, 1, 2, 3]) rfl ?_
  intro a w13 v101 S101 hF hseg101 hk13 hS101
  replace hB := below_own hB hk13 hb99
  have p12 := (p9.below hB).app (p3.below hB)
  rw [← flatQ_app] at hseg101
  have k12 : (Ty.pcsR (Q ++ R0)).p w13 v101 := ⟨_, p12, by rw [List.length_append]; exact reads_sl _ _ _ _ _ hseg101.sl⟩
  clear hseg hseg99 hseg101 p12
  refine' tlOp hF rfl rfl rfl ?_ ?_
  rotate_left
  · exact cAssign rfl rfl
  intro a w14 hF hb
  have hBs := hB.size
  replace hB := hB.trans (hb.mono hB.size)
  try (refine wpList_nil ?_)
  repeat with_reducible first | refine wp_seq ?_ | refine nThen ?_
  replace k12 := (Ty.pcsR _).below k12 hb
  have hHl : (Q ++ R0).length ≤ 1040 := by rw [List.length_append]; omega
  generalize hHe : Q ++ R0 = H at *
  refine' reg_all hF ?_ mixed (by kernel_rfl) ?_
  rotate_left
  · repeat (first | exact Line.nil | ((refine' Line.cons rfl (.run rfl rfl ?_) ?_); (any_goals exact cAssign rfl rfl); rotate_left))
  intro a w15 hF hb hN
  have hBs := hB.size
  replace hB := hB.trans (hb.mono hB.size)
  dsimp only [ext, Option.getD] at hF
  repeat with_reducible first | refine wp_seq ?_ | refine nThen ?_
  replace k12 := (Ty.pcsR _).below k12 hb
  refine' reg_all hF ?_ mixed (by kernel_rfl) ?_
  rotate_left
  · repeat (first | exact Line.nil | ((refine' Line.cons rfl (.run rfl rfl ?_) ?_); (any_goals exact cAssign rfl rfl); rotate_left))
  intro a w16 hF hb hN
  have hBs := hB.size
  replace hB := hB.trans (hb.mono hB.size)
  dsimp only [ext, Option.getD] at hF
  repeat with_reducible first | refine nThen ?_ | refine wp_block ?_
  replace k12 := (Ty.pcsR _).below k12 hb
  replace b0 := TA.below b0 hB
  replace b1 := TB.below b1 hB
  replace b2 := TI.below b2 hB
  replace b3 := (Ty.pcsR R0).below b3 hB
  replace hB0 := hB0.trans (hB.mono hw7)
  have hw16 := hB0.size
  clear r9 r3 p9 p3 r9r r3r
  replace hB := Below.refl w16.heap.size w16
  refine loop_ty (fun m a wr => ∃ (k : Nat) (u : Value) (S : List Nat) (M : List Sm), k + m = l.length ∧ M.length = k ∧ Fr 218 [(0, Ty.ex v0), (1, Ty.ex v1), (2, Ty.ex v2), (3, Ty.ex (.slice A3 R0.length c3)), (12, Ty.ex v101), (13, Ty.ex u), (14, Ty.ex (.int .i64 (k : Int)))] a wr ∧ Below w16.heap.size w16 wr ∧ Seg wr 27 32 u k (flat M) S ∧ ∀ y ∈ S, w16.heap.size ≤ y) l.length ?_ ?_
  · exact ⟨0, _, [], [], by omega, rfl, hF.keep [0, 1, 2, 3, 12, 13, 14], hB, Seg.nil _ _ _, by simp⟩
  clear hF hB
  rintro m a wr ⟨k, u, S, M, hk, hM, hF, hB, hseg, hS⟩
  have b2r := TI.below b2 hB
  repeat with_reducible refine wp_seq ?_
  refine' reg_all hF ?_ mixed (by kernel_rfl) ?_
  rotate_left
  · repeat (first | exact Line.nil | ((refine' Line.cons rfl (.run rfl rfl ?_) ?_); (any_goals (first | exact cMove rfl rfl | exact cLenH rfl (.l rfl b2r) (Ty.rd_isSl _ _) Try.underlying31 | exact cLss rfl rfl rfl)); rotate_left))
  intro a w17 hF hb hN
  have hBs := hB.size
  replace hB := hB.trans (hb.mono hB.size)
  dsimp only [ext, Option.getD] at hF
  repeat with_reducible refine nThen ?_
  replace hseg := hseg.below hb
  refine cond_ty hF rfl (fun hlt => ?_) (fun hge => ?_)
  · have hlt : k < l.length := by have := of_decide_eq_true hlt; omega
    have hvd := ivz_dropC hlt
    generalize l.getD k 0 = z at *
    have b2r := TI.below b2 hB
    have k12r := (Ty.pcsR H).below k12 hB
    repeat with_reducible first | refine wp_seq ?_ | refine nThen ?_ | refine wp_skip ?_ | refine wp_block ?_
    refine wp_cut (R := fun a w => Fr 218 [(0, Ty.ex v0), (1, Ty.ex v1), (2, Ty.ex v2), (3, Ty.ex (.slice A3 R0.length c3)), (12, Ty.ex v101), (13, Ty.ex u), (14, Ty.ex (.int .i64 (k : Int))), (121, Ty.ex (.bool (decide (0 ≤ z ∧ z < (H.length : Int)))))] a w ∧ Below w16.heap.size w16 w ∧ Seg w 27 32 u k (flat M) S) ?_ ?_
    · by_cases hz0 : 0 ≤ z
      rotate_left
      · rw [show decide (0 ≤ z ∧ z < (H.length : Int)) = false from decide_eq_false fun h => hz0 h.1]
        refine' reg_all hF ?_ mixed (by kernel_rfl) ?_
        rotate_left
        · repeat (first | exact Line.nil | (refine' Line.cons rfl (.no rfl rfl rfl rfl rfl rfl) ?_; rotate_left) | ((refine' Line.cons rfl (.run rfl rfl ?_) ?_); (any_goals (first | exact cMove rfl rfl | exact cIndexR (k := k) (sz := 1) rfl (.l rfl b2r) rfl Try.underlying31 sizeI1 hlt (by rw [Nat.mul_one, List.length_map]; exact hlt) | exact cLoad1 (u := .int .i64 z) rfl (Has.c (.t rfl) (fun W v h => by rw [hvd] at h; exact h)) (pts_atR _) Try.underlying3 rfl | exact OpOk.b (c := false) (cGeq rfl rfl rfl) (decide_eq_false hz0) | exact cPickF rfl rfl rfl)); rotate_left))
        intro a w18 hF hb hN
        have hBs := hB.size
        replace hB := hB.trans (hb.mono hB.size)
        dsimp only [ext, Option.getD] at hF
        repeat with_reducible refine nThen ?_
        exact ⟨hF.keep [0, 1, 2, 3, 12, 13, 14, 121], hB, hseg.below hb⟩
      by_cases hz1 : z < (H.length : Int)
      · rw [show decide (0 ≤ z ∧ z < (H.length : Int)) = true from decide_eq_true ⟨hz0, hz1⟩]
        refine' reg_all hF ?_ mixed (by kernel_rfl) ?_
        rotate_left
        · repeat (first | exact Line.nil | ((first | refine' Line.cons rfl (.run rfl rfl ?_) ?_ | refine' Line.cons rfl (.yes rfl rfl rfl rfl ?_) ?_); (any_goals (first | exact cMove rfl rfl | exact cIndexR (k := k) (sz := 1) rfl (.l rfl b2r) rfl Try.underlying31 sizeI1 hlt (by rw [Nat.mul_one, List.length_map]; exact hlt) | exact cLoad1 (u := .int .i64 z) rfl (Has.c (.t rfl) (fun W v h => by rw [hvd] at h; exact h)) (pts_atR _) Try.underlying3 rfl | exact OpOk.b (c := true) (cGeq rfl rfl rfl) (decide_eq_true hz0) | exact cLenH rfl (.l rfl k12r) (pcsR_isSl H) Try.underlying24 | exact OpOk.b (c := true) (cLss rfl rfl rfl) (decide_eq_true hz1) | exact cPickT rfl rfl rfl)); rotate_left))
        intro a w18 hF hb hN
        have hBs := hB.size
        replace hB := hB.trans (hb.mono hB.size)
        dsimp only [ext, Option.getD] at hF
        repeat with_reducible refine nThen ?_
        exact ⟨hF.keep [0, 1, 2, 3, 12, 13, 14, 121], hB, hseg.below hb⟩
      · rw [show decide (0 ≤ z ∧ z < (H.length : Int)) = false from decide_eq_false fun h => hz1 h.2]
        refine' reg_all hF ?_ mixed (by kernel_rfl) ?_
        rotate_left
        · repeat (first | exact Line.nil | ((first | refine' Line.cons rfl (.run rfl rfl ?_) ?_ | refine' Line.cons rfl (.yes rfl rfl rfl rfl ?_) ?_); (any_goals (first | exact cMove rfl rfl | exact cIndexR (k := k) (sz := 1) rfl (.l rfl b2r) rfl Try.underlying31 sizeI1 hlt (by rw [Nat.mul_one, List.length_map]; exact hlt) | exact cLoad1 (u := .int .i64 z) rfl (Has.c (.t rfl) (fun W v h => by rw [hvd] at h; exact h)) (pts_atR _) Try.underlying3 rfl | exact OpOk.b (c := true) (cGeq rfl rfl rfl) (decide_eq_true hz0) | exact cLenH rfl (.l rfl k12r) (pcsR_isSl H) Try.underlying24 | exact OpOk.b (c := false) (cLss rfl rfl rfl) (decide_eq_false hz1) | exact cPickT rfl rfl rfl)); rotate_left))
        intro a w18 hF hb hN
        have hBs := hB.size
        replace hB := hB.trans (hb.mono hB.size)
        dsimp only [ext, Option.getD] at hF
        repeat with_reducible refine nThen ?_
        exact ⟨hF.keep [0, 1, 2, 3, 12, 13, 14, 121], hB, hseg.below hb⟩
    clear hF hB hseg b2r k12r
    rintro a w18 ⟨hF, hB, hseg⟩
    have b2r := TI.below b2 hB
    have k12r := (Ty.pcsR H).below k12 hB
    refine cond_ty hF rfl (fun hin => ?_) (fun hout => ?_)
    · obtain ⟨hz0, hz1⟩ := of_decide_eq_true hin
      obtain ⟨j, hj⟩ : ∃ j : Nat, z = (j : Int) := ⟨z.toNat, by omega⟩
      have hjH : j < H.length := by omega
      rw [hj] at hvd
      refine' region_ty 10 mixed (by kernel_rfl) hF ?_ ?_
      rotate_left
      · simp only [List.take_succ_cons, List.take_zero]
        repeat (first | exact Line.nil | ((refine' Line.cons rfl (.run rfl rfl ?_) ?_); (any_goals (first | exact cMove rfl rfl | exact cIndexR (k := k) (sz := 1) rfl (.l rfl b2r) rfl Try.underlying31 sizeI1 hlt (by rw [Nat.mul_one, List.length_map]; exact hlt) | exact cLoad1 (u := .int .i64 (j : Int)) rfl (Has.c (.t rfl) (fun W v h => by rw [hvd] at h; exact h)) (pts_atR _) Try.underlying3 rfl | exact cIdxQ (k := j) rfl (.l rfl k12r) rfl Try.underlying24 sizePc hjH | exact cFldQ0 rfl (.t rfl) Try.underlying29 rfl sizeS | exact cLoadSumR rfl (.t rfl) Try.underlying27 sizeS | exact cBuildSums [(H.getD j (Sm.zero, [])).1] rfl (parts1v rfl rfl) Try.underlying35 infoS rfl)); rotate_left))
      intro a w19 hF hb hN
      have hBs := hB.size
      replace hB := hB.trans (hb.mono hB.size)
      simp only [List.take_succ_cons, List.take_zero, List.drop_succ_cons, List.drop_zero] at hF hN ⊢
      dsimp only [ext, Option.getD] at hF
      replace hseg := hseg.below hb
      generalize (H.getD j (Sm.zero, [])).1 = x at *
      refine tlAppend (Δ := [(0, Ty.ex v0), (1, Ty.ex v1), (2, Ty.ex v2), (3, Ty.ex (.slice A3 R0.length c3)), (12, Ty.ex v101), (14, Ty.ex (.int .i64 (k : Int)))]) (n := k) (m := 1) (news := flat [x]) hF rfl rfl rfl rfl Try.underlying35 infoS zero32_size rfl hseg (.t rfl) sl_news (by rw [flat_len]; rfl) flat_one' (by simp [maxLen]; omega) (by omega) (hF.keep [0, 1, 2, 3, 12, 14]) rfl ?_
      intro a w20 u' S' hF hseg' hk20 hS'
      have hbS : ∀ y ∈ S', w16.heap.size ≤ y := own_next hB hS hS'
      replace hB := below_own hB hk20 hS
      rw [← flat_append] at hseg'
      refine' tlOp hF rfl rfl rfl ?_ ?_
      rotate_left
      · exact cAssign rfl rfl
      intro a w21 hF hb
      have hBs := hB.size
      replace hB := hB.trans (hb.mono hB.size)
      try (refine wpList_nil ?_)
      repeat with_reducible first | refine nThen ?_ | refine nBlk ?_
      replace hseg' := hseg'.below hb
      refine' reg_all hF ?_ mixed (by kernel_rfl) ?_
      rotate_left
      · repeat (first | exact Line.nil | ((refine' Line.cons rfl (.run rfl rfl ?_) ?_); (any_goals (first | exact cMove rfl rfl | exact cAssign rfl rfl | exact cAdd (r := ((k + 1 : Nat) : Int)) rfl rfl rfl (by omega))); rotate_left))
      intro a w22 hF hb hN
      have hBs := hB.size
      replace hB := hB.trans (hb.mono hB.size)
      dsimp only [ext, Option.getD] at hF
      repeat with_reducible refine nThen ?_
      exact ⟨m - 1, by omega, k + 1, u', S', M ++ [x], by omega, by rw [List.length_append, hM]; rfl, hF.keep [0, 1, 2, 3, 12, 13, 14], hB, hseg'.below hb, hbS⟩
    · obtain ⟨c, hc, hc2⟩ := wrap_u8 z
      have hO := sumOf1_ty (e := 22) (τ := Ty.sl 5 1 [bv c]) [c] (reads_sl _ _ _) (by simp; exact hc2) (by simp)
      have e3 : shaL [c] = (shaS [c]).l := rfl
      rw [e3] at hO
      generalize shaS [c] = x at *
      clear e3
      refine' region_ty 10 mixed (by kernel_rfl) hF ?_ ?_
      rotate_left
      · simp only [List.take_succ_cons, List.take_zero]
        repeat (first | exact Line.nil | ((refine' Line.cons rfl (.run rfl rfl ?_) ?_); (any_goals (first | exact cMove rfl rfl | exact cIndexR (k := k) (sz := 1) rfl (.l rfl b2r) rfl Try.underlying31 sizeI1 hlt (by rw [Nat.mul_one, List.length_map]; exact hlt) | exact cLoad1 (u := .int .i64 z) rfl (Has.c (.t rfl) (fun W v h => by rw [hvd] at h; exact h)) (pts_atR _) Try.underlying3 rfl | exact cConvR (r := (c : Int)) rfl rfl Try.underlying3 Try.underlying5 hc | exact cBuildV (vs := [bv c]) rfl (parts1v rfl rfl) Try.underlying22 infoU8 rfl (by simp [bv, Value.cells]) (by decide) (by simp [maxLen]) | exact cBuildT (τs := [Ty.sl 5 1 [bv c]]) rfl (partsT1 rfl (.t rfl) (Ty.sl_isSl _ _ _)) Try.underlying57 infoB rfl | exact cCall1 rfl rfl hO | exact cBuildSums [x] rfl (parts1v rfl rfl) Try.underlying35 infoS rfl)); rotate_left))
      intro a w19 hF hb hN
      have hBs := hB.size
      replace hB := hB.trans (hb.mono hB.size)
      simp only [List.take_succ_cons, List.take_zero, List.drop_succ_cons, List.drop_zero] at hF hN ⊢
      dsimp only [ext, Option.getD] at hF
      replace hseg := hseg.below hb
      refine tlAppend (Δ := [(0, Ty.ex v0), (1, Ty.ex v1), (2, Ty.ex v2), (3, Ty.ex (.slice A3 R0.length c3)), (12, Ty.ex v101), (14, Ty.ex (.int .i64 (k : Int)))]) (n := k) (m := 1) (news := flat [x]) hF rfl rfl rfl rfl Try.underlying35 infoS zero32_size rfl hseg (.t rfl) sl_news (by rw [flat_len]; rfl) flat_one' (by simp [maxLen]; omega) (by omega) (hF.keep [0, 1, 2, 3, 12, 14]) rfl ?_
      intro a w20 u' S' hF hseg' hk20 hS'
      have hbS : ∀ y ∈ S', w16.heap.size ≤ y := own_next hB hS hS'
      replace hB := below_own hB hk20 hS
      rw [← flat_append] at hseg'
      refine' tlOp hF rfl rfl rfl ?_ ?_
      rotate_left
      · exact cAssign rfl rfl
      intro a w21 hF hb
      have hBs := hB.size
      replace hB := hB.trans (hb.mono hB.size)
      try (refine wpList_nil ?_)
      repeat with_reducible first | refine nThen ?_ | refine nBlk ?_
      replace hseg' := hseg'.below hb
      refine' reg_all hF ?_ mixed (by kernel_rfl) ?_
      rotate_left
      · repeat (first | exact Line.nil | ((refine' Line.cons rfl (.run rfl rfl ?_) ?_); (any_goals (first | exact cMove rfl rfl | exact cAssign rfl rfl | exact cAdd (r := ((k + 1 : Nat) : Int)) rfl rfl rfl (by omega))); rotate_left))
      intro a w22 hF hb hN
      have hBs := hB.size
      replace hB := hB.trans (hb.mono hB.size)
      dsimp only [ext, Option.getD] at hF
      repeat with_reducible refine nThen ?_
      exact ⟨m - 1, by omega, k + 1, u', S', M ++ [x], by omega, by rw [List.length_append, hM]; rfl, hF.keep [0, 1, 2, 3, 12, 13, 14], hB, hseg'.below hb, hbS⟩
  have hge : ¬ k < l.length := by have := of_decide_eq_false hge; omega
  have hMl : M.length ≤ 40 := by omega
  rw [← hM] at hseg
  repeat with_reducible first | refine wp_seq ?_ | refine nThen ?_ | refine wp_exit ?_ | refine xThen ?_ | refine xHere ?_
  refine' reg_all hF ?_ mixed (by kernel_rfl) ?_
  rotate_left
  · repeat (first | exact Line.nil | ((refine' Line.cons rfl (.run rfl rfl ?_) ?_); (any_goals exact cAssign rfl rfl); rotate_left))
  intro a w18 hF hb hN
  have hBs := hB.size
  replace hB := hB.trans (hb.mono hB.size)
  dsimp only [ext, Option.getD] at hF
  repeat with_reducible first | refine nThen ?_ | refine wp_block ?_
  have k13 : (Ty.sums 27 M).p w18 u := (hseg.below hb).sl
  replace k12 := (Ty.pcsR H).below k12 hB
  replace b0 := TA.below b0 hB
  replace b1 := TB.below b1 hB
  replace b3 := (Ty.pcsR R0).below b3 hB
  replace hB0 := hB0.trans (hB.mono hw16)
  have hw18 := hB0.size
  clear hseg b2r
  replace hB := Below.refl w18.heap.size w18
  refine loop_ty (fun m a wr => ∃ (k : Nat), k + m = R0.length ∧ (∀ i, i < k → (R0.getD i (Sm.zero, [])).2.length ≤ 500) ∧ Fr 218 [(0, Ty.ex v0), (1, Ty.ex v1), (3, Ty.ex (.slice A3 R0.length c3)), (12, Ty.ex v101), (13, Ty.ex u), (15, Ty.ex (.int .i64 (k : Int)))] a wr ∧ Below w18.heap.size w18 wr) R0.length ?_ ?_
  · exact ⟨0, by omega, fun i hi => by omega, hF.keep [0, 1, 3, 12, 13, 15], hB⟩
  clear hF hB hk hM hge
  rintro m a wr ⟨k, hk, h500, hF, hB⟩
  have b3r := (Ty.pcsR R0).below b3 hB
  repeat with_reducible refine wp_seq ?_
  refine' reg_all hF ?_ mixed (by kernel_rfl) ?_
  rotate_left
  · repeat (first | exact Line.nil | ((refine' Line.cons rfl (.run rfl rfl ?_) ?_); (any_goals (first | exact cMove rfl rfl | exact cLenH rfl (.l rfl b3r) (pcsR_isSl R0) Try.underlying24 | exact cLss rfl rfl rfl)); rotate_left))
  intro a w19 hF hb hN
  have hBs := hB.size
  replace hB := hB.trans (hb.mono hB.size)
  dsimp only [ext, Option.getD] at hF
  repeat with_reducible refine nThen ?_
  refine cond_ty hF rfl (fun hlt => ?_) (fun hge => ?_)
  · have hlt : k < R0.length := by have := of_decide_eq_true hlt; omega
    have h500' : (R0.getD k (Sm.zero, [])).2.length ≤ 500 → ∀ i, i < k + 1 → (R0.getD i (Sm.zero, [])).2.length ≤ 500 := fun h i hi => by
      by_cases e : i = k
      · rw [e]; exact h
      · exact h500 i (by omega)
    have hq256 := hx3 _ (getD_memQ hlt)
    have b3r := (Ty.pcsR R0).below b3 hB
    obtain ⟨ad, hA3⟩ : ∃ ad, A3 = some ad := by
      obtain ⟨L, _, A, c, e, _, hA, _⟩ := id b3
      injection e with e1 e2 e3
      cases A with
      | none => have := hA rfl; omega
      | some ad => exact ⟨ad, e1⟩
    have kp : (Ty.pcsR [R0.getD k (Sm.zero, [])]).p w19 (.slice (some (ad.add (k * 33))) 1 (c3 - k)) := pcsR_one (n := R0.length) (c := c3) (by rw [← hA3]; exact b3r) hlt
    have hix : ∀ {w0 : World} {Γ : Ctx} {o : Oper} {x ix : Operand} {kd : IntKind} (ho : o.op = .indexAddr PiL x ix) (hx : Has w0 Γ x (Ty.pcsR R0)) (hi : OpT Γ ix (Ty.ex (.int kd (k : Int)))), OpOk Try.prog w0 Γ o (Ty.pcP (R0.getD k (Sm.zero, []))) := fun ho hx hi => cIdxQ ho hx hi Try.underlying24 sizePc hlt
    generalize R0.getD k (Sm.zero, []) = q at *
    repeat with_reducible first | refine wp_seq ?_ | refine nThen ?_ | refine wp_skip ?_ | refine wp_block ?_
    by_cases hq5 : q.2.length ≤ 500
    rotate_left
    · refine' reg_all hF ?_ mixed (by kernel_rfl) ?_
      rotate_left
      · repeat (first | exact Line.nil | (refine' Line.cons rfl (.no rfl rfl rfl rfl rfl rfl) ?_; rotate_left) | ((refine' Line.cons rfl (.run rfl rfl ?_) ?_); (any_goals (first | exact cMove rfl rfl | exact OpOk.b (c := true) (cGtr rfl rfl rfl) (decide_eq_true (by omega)) | exact hix rfl (.l rfl b3r) rfl | exact cFldQ1 rfl (.t rfl) Try.underlying29 rfl sizeB1 | exact cLoadQB rfl (.t rfl) Try.underlying22 rfl | exact cLenH rfl (.t rfl) (rdB_isSl _) Try.underlying22 | exact cPickT rfl rfl rfl)); rotate_left))
      intro a w20 hF hb hN
      have hBs := hB.size
      replace hB := hB.trans (hb.mono hB.size)
      dsimp only [ext, Option.getD] at hF
      repeat with_reducible refine nThen ?_
      refine cond_t hF rfl ?_
      have b3r := (Ty.pcsR R0).below b3 hB
      repeat with_reducible refine wp_seq ?_
      refine' reg_all hF ?_ mixed (by kernel_rfl) ?_
      rotate_left
      · repeat (first | exact Line.nil | ((refine' Line.cons rfl (.run rfl rfl ?_) ?_); (any_goals (first | exact cMove rfl rfl | exact cAssign rfl rfl | exact OpOk.b (c := true) (cGtr rfl rfl rfl) (decide_eq_true (by omega)) | exact hix rfl (.l rfl b3r) rfl | exact cFldQ1 rfl (.t rfl) Try.underlying29 rfl sizeB1 | exact cLoadQB rfl (.t rfl) Try.underlying22 rfl | exact cLenH rfl (.t rfl) (rdB_isSl _) Try.underlying22)); rotate_left))
      intro a w21 hF hb hN
      have hBs := hB.size
      replace hB := hB.trans (hb.mono hB.size)
      dsimp only [ext, Option.getD] at hF
      repeat with_reducible first | refine nThen ?_ | refine wp_ret ?_ | refine rThen ?_ | refine rBlk ?_
      refine ret1 hF rfl rfl fun z hz => ?_
      exact ⟨by rw [show z = .bool true from hz], hB0.trans (hB.mono hw18)⟩
    have hG := goodq_ty q hq256 (by omega)
    have hRG := rgoodq_ty q hq256 (by omega)
    have hP1 := pieces_ty [q] (by simp)
    refine' reg_all hF ?_ mixed (by kernel_rfl) ?_
    rotate_left
    · repeat (first | exact Line.nil | ((first | refine' Line.cons rfl (.run rfl rfl ?_) ?_ | refine' Line.cons rfl (.yes rfl rfl rfl rfl ?_) ?_); (any_goals (first | exact cMove rfl rfl | exact OpOk.b (c := false) (cGtr rfl rfl rfl) (decide_eq_false (by omega)) | exact cLoadQ rfl (.t rfl) Try.underlying29 rfl sizePc | exact cCallH1 rfl (.t rfl) hG | exact cAdd (r := ((k + 1 : Nat) : Int)) rfl rfl rfl (by omega) | exact cSliceX (k := k) (j := k + 1) (m := 1) rfl rfl rfl rfl Try.underlying24 sizePc hA3 rfl (Nat.le_refl _) (by omega) | exact cCallH1 rfl (.l rfl kp) hP1 | exact cIdxQ (k := 0) (Q := [q]) rfl (.t rfl) rfl Try.underlying32 sizeRi (by simp) | exact cLoadQ (q := q) rfl (.t rfl) Try.underlying41 rfl sizeRi | exact cCallH1 rfl (.t rfl) hRG | exact OpOk.b (c := false) (cNeqBool rfl rfl rfl Try.underlying4) (by simp) | exact hix rfl (.l rfl b3r) rfl | exact cFldQ1 rfl (.t rfl) Try.underlying29 rfl sizeB1 | exact cLoadQB rfl (.t rfl) Try.underlying22 rfl | exact cLenH rfl (.t rfl) (rdB_isSl _) Try.underlying22 | exact cPickF rfl rfl rfl)); rotate_left))
    intro a w20 hF hb hN
    have hBs := hB.size
    replace hB := hB.trans (hb.mono hB.size)
    dsimp only [ext, Option.getD] at hF
    repeat with_reducible refine nThen ?_
    refine cond_f hF rfl ?_
    repeat with_reducible first | refine nThen ?_ | refine nBlk ?_ | refine wp_skip ?_
    refine' reg_all hF ?_ mixed (by kernel_rfl) ?_
    rotate_left
    · repeat (first | exact Line.nil | ((refine' Line.cons rfl (.run rfl rfl ?_) ?_); (any_goals (first | exact cMove rfl rfl | exact cAssign rfl rfl | exact cAdd (r := ((k + 1 : Nat) : Int)) rfl rfl rfl (by omega))); rotate_left))
    intro a w21 hF hb hN
    have hBs := hB.size
    replace hB := hB.trans (hb.mono hB.size)
    dsimp only [ext, Option.getD] at hF
    repeat with_reducible refine nThen ?_
    exact ⟨m - 1, by omega, k + 1, by omega, h500' hq5, hF.keep [0, 1, 3, 12, 13, 15], hB⟩
  have hge : ¬ k < R0.length := by have := of_decide_eq_false hge; omega
  have hmH : ∀ q ∈ H, (∀ x ∈ q.2, x < 256) ∧ q.2.length ≤ 1000000 := fun q hq => by
    rw [← hHe] at hq
    rcases List.mem_append.1 hq with h | h
    · exact hmq q h
    · obtain ⟨i, hi, rfl⟩ := List.getElem_of_mem h
      refine ⟨hx3 _ h, ?_⟩
      have := h500 i (by omega)
      rw [show R0.getD i (Sm.zero, []) = R0[i] by simp [List.getD, List.getElem?_eq_getElem hi]] at this
      omega
  have hJ := join_ty M H (by omega) (by omega) hmH
  have hRJ := rjoin_ty M H (by omega) (by omega) hmH
  have hN11 := names11_ty M (by omega)
  have hPH := pieces_ty H (by omega)
  have hOf := r10of_ty (Na ++ Nb) (by rw [List.length_append]; omega)
  have hsm := sums11_same (setL (Na ++ Nb)) (by have := setL_len (Na ++ Nb); rw [List.length_append] at this; omega)
  generalize setL (Na ++ Nb) = X at *
  generalize joinQ M H = J at *
  have k12r := (Ty.pcsR H).below k12 hB
  have k13r := (Ty.sums 27 M).below k13 hB
  repeat with_reducible first | refine wp_seq ?_ | refine nThen ?_ | refine wp_exit ?_ | refine xThen ?_ | refine xHere ?_
  refine' reg_all hF ?_ mixed (by kernel_rfl) ?_
  rotate_left
  · repeat (first | exact Line.nil | ((refine' Line.cons rfl (.run rfl rfl ?_) ?_); (any_goals (first | exact cMove rfl rfl | exact cAssign rfl rfl | exact cCallH2 rfl (.l rfl k13r) (.l rfl k12r) hJ | exact cExtract rfl rfl rfl)); rotate_left))
  intro a w20 hF hb hN
  have hBs := hB.size
  replace hB := hB.trans (hb.mono hB.size)
  dsimp only [ext, Option.getD] at hF
  repeat with_reducible first | refine wp_seq ?_ | refine nThen ?_
  have k12r := (Ty.pcsR H).below k12 hB
  have k13r := (Ty.sums 27 M).below k13 hB
  refine' reg_all hF ?_ mixed (by kernel_rfl) ?_
  rotate_left
  · repeat (first | exact Line.nil | ((refine' Line.cons rfl (.run rfl rfl ?_) ?_); (any_goals (first | exact cMove rfl rfl | exact cAssign rfl rfl | exact cCallH1 rfl (.l rfl k13r) hN11 | exact cCallH1 rfl (.l rfl k12r) hPH | exact cCallH2 rfl (.t rfl) (.t rfl) hRJ | exact cExtract rfl rfl rfl)); rotate_left))
  intro a w21 hF hb hN
  have hBs := hB.size
  replace hB := hB.trans (hb.mono hB.size)
  dsimp only [ext, Option.getD] at hF
  repeat with_reducible first | refine wp_seq ?_ | refine nThen ?_
  refine wp_region_lit ?_
  refine' tlOp hF rfl rfl rfl ?_ ?_
  rotate_left
  · exact cMove rfl rfl
  intro a x0 hF hb
  have hBs := hB.size
  replace hB := hB.trans (hb.mono hB.size)
  try (refine wpList_nil ?_)
  refine' tlOp hF rfl rfl rfl ?_ ?_
  rotate_left
  · exact cStrOf rfl (.t rfl) Try.underlying22 Try.underlying5 Try.underlying9
  intro a x1 hF hb
  have hBs := hB.size
  replace hB := hB.trans (hb.mono hB.size)
  try (refine wpList_nil ?_)
  refine' tlOp hF rfl rfl rfl ?_ ?_
  rotate_left
  · exact cMove rfl rfl
  intro a x2 hF hb
  have hBs := hB.size
  replace hB := hB.trans (hb.mono hB.size)
  try (refine wpList_nil ?_)
  refine' tlOp hF rfl rfl rfl ?_ ?_
  rotate_left
  · exact cStrOf rfl (.t rfl) Try.underlying22 Try.underlying5 Try.underlying9
  intro a x3 hF hb
  have hBs := hB.size
  replace hB := hB.trans (hb.mono hB.size)
  try (refine wpList_nil ?_)
  refine' tlOp hF rfl rfl rfl ?_ ?_
  rotate_left
  · exact OpOk.b (c := true) (cEqlStr rfl rfl rfl) (beq_self_eq_true _)
  intro a x4 hF hb
  have hBs := hB.size
  replace hB := hB.trans (hb.mono hB.size)
  try (refine wpList_nil ?_)
  refine' tlOp hF rfl rfl rfl ?_ ?_
  rotate_left
  · exact cMove rfl rfl
  intro a x5 hF hb
  have hBs := hB.size
  replace hB := hB.trans (hb.mono hB.size)
  try (refine wpList_nil ?_)
  refine' tlGd hF rfl rfl rfl rfl rfl (cMove rfl rfl) ?_
  intro a x6 hF hb
  replace hB := hB.trans (hb.mono hB.size)
  refine' tlGd hF rfl rfl rfl rfl rfl (cMove rfl rfl) ?_
  intro a x7 hF hb
  replace hB := hB.trans (hb.mono hB.size)
  refine' tlGd hF rfl rfl rfl rfl rfl (OpOk.b (c := true) (cEql rfl rfl rfl) (decide_eq_true rfl)) ?_
  intro a x8 hF hb
  replace hB := hB.trans (hb.mono hB.size)
  refine' tlOp hF rfl rfl rfl ?_ ?_
  rotate_left
  · exact cPickT rfl rfl rfl
  intro a x9 hF hb
  have hBs := hB.size
  replace hB := hB.trans (hb.mono hB.size)
  try (refine wpList_nil ?_)
  refine' tlOp hF rfl rfl rfl ?_ ?_
  rotate_left
  · exact cMove rfl rfl
  intro a x10 hF hb
  have hBs := hB.size
  replace hB := hB.trans (hb.mono hB.size)
  try (refine wpList_nil ?_)
  refine' tlGd hF rfl rfl rfl rfl rfl (cMove rfl rfl) ?_
  intro a x11 hF hb
  replace hB := hB.trans (hb.mono hB.size)
  refine' tlGd hF rfl rfl rfl rfl rfl (cMove rfl rfl) ?_
  intro a x12 hF hb
  replace hB := hB.trans (hb.mono hB.size)
  have b0r := TA.below b0 hB
  have b1r := TB.below b1 hB
  refine' tlGd hF rfl rfl rfl rfl rfl (cBuildT (τs := [Ty.rdB la, Ty.rdB lb]) rfl (partsT2 rfl (.l rfl b0r) (.l rfl b1r) (rdB_isSl _) (rdB_isSl _)) Try.underlying57 infoB rfl) ?_
  intro a x13 hF hb
  replace hB := hB.trans (hb.mono hB.size)
  refine' tlGd hF rfl rfl rfl rfl rfl (cCallH1 rfl (Has.c (.t rfl) (slT_blsR la lb)) hAll) ?_
  intro a x14 hF hb
  replace hB := hB.trans (hb.mono hB.size)
  refine' tlGd hF rfl rfl rfl rfl rfl (cMove rfl rfl) ?_
  intro a x15 hF hb
  replace hB := hB.trans (hb.mono hB.size)
  have b0r := TA.below b0 hB
  have hw211 := hB.size
  refine' tlGd hF rfl rfl rfl rfl rfl (cCallS1 rfl (.l rfl b0r) hSa) ?_
  intro a x16 hF hb
  replace hB := hB.trans (hb.mono hB.size)
  refine' tlGd hF rfl rfl rfl rfl rfl (cMove rfl rfl) ?_
  intro a x17 hF hb
  replace hB := hB.trans (hb.mono hB.size)
  have b1r := TB.below b1 hB
  refine' tlGd hF rfl rfl rfl rfl rfl (cCallH1 rfl (.l rfl b1r) hRb) ?_
  intro a x18 hF hb
  replace hB := hB.trans (hb.mono hB.size)
  obtain ⟨v211, ⟨S211, hseg, hS211⟩, hF⟩ := hF.open (s := 211) rfl
  have hS211 : ∀ y ∈ S211, w18.heap.size ≤ y := fun y hy => Nat.le_trans hw211 (hS211 y hy)
  refine tlAppendM (Δ := [(205, Ty.ex (.bool true)), (209, Ty.sums 27 X)]) (n := Na.length) (m := Nb.length) (news := flat Nb) hF (.inr ⟨_, _, rfl, rfl, rfl⟩) rfl rfl rfl Try.underlying37 infoR zero32_size rfl hseg (.t rfl) sl_news (flat_len _) flat_one' (by simp [maxLen]; omega) (by omega) (hF.keep [205, 209]) rfl ?_
  intro a x19 v214 S214 hF hseg hk19 hS19
  replace hB := below_own hB hk19 hS211
  rw [← flat_append, ← List.length_append] at hseg
  have k214 : (Ty.sums 39 (Na ++ Nb)).p x19 v214 := hseg.sl
  refine' tlGd hF rfl rfl rfl rfl rfl (cCallS1 rfl (.l rfl k214) hOf) ?_
  intro a x20 hF hb
  replace hB := hB.trans (hb.mono hB.size)
  refine' tlGd hF rfl rfl rfl rfl rfl (cCallH2 rfl (.t rfl) (Has.c (.t rfl) seg_sl) hsm) ?_
  intro a x21 hF hb
  replace hB := hB.trans (hb.mono hB.size)
  refine' tlOp hF rfl rfl rfl ?_ ?_
  rotate_left
  · exact cPickT rfl rfl rfl
  intro a x22 hF hb
  have hBs := hB.size
  replace hB := hB.trans (hb.mono hB.size)
  try (refine wpList_nil ?_)
  refine' tlOp hF rfl rfl rfl ?_ ?_
  rotate_left
  · exact cAssign rfl rfl
  intro a x23 hF hb
  have hBs := hB.size
  replace hB := hB.trans (hb.mono hB.size)
  try (refine wpList_nil ?_)
  repeat with_reducible first | refine nThen ?_ | refine wp_ret ?_
  refine ret1 hF rfl rfl fun z hz => ?_
  exact ⟨by rw [show z = .bool true from hz], hB0.trans (hB.mono hw18)⟩
end Go.Proofs.Ytbjlmhbpcopfbaa

/- An argument that is a slice: it is no longer than its room. -/
namespace Go.Proofs.Ytbjlmhbpcopfbaa
open Go.RowKit Go.ChangeShapes Go.WideShapes Go.Deep

theorem row_cap {H : Type} {enc : TypeId × Value → H} {P : Program} {W : World} {sp : Nat → Bool} {t e : TypeId} {a : Option Addr} {len cap : Nat} {d : DataW H} {ps : List MemPlace} (ht : P.underlying t = some (.slice e)) (h : DataW.Trod enc P W 0 sp true t (.slice a len cap) d ps) : len ≤ cap := by
  obtain ⟨fuel, hf⟩ := h
  rcases open_slice ht hf with ⟨hcs, _⟩ | ⟨x, l, c, m, n, D, Pl, hcs2, _, hl, _⟩
  · simp [Value.cells] at hcs
    obtain ⟨rfl, rfl, rfl⟩ := hcs
    exact Nat.le_refl _
  · simp [Value.cells] at hcs2
    obtain ⟨rfl, rfl, rfl⟩ := hcs2
    exact hl
theorem ints_rdC {W : World} {a : Option Addr} {n cap : Nat} {l : List Int} (hl : l.length = n) (hn : n ≤ maxLen) (hN : a = none → n = 0) (hr : Rd W a (l.map (Value.int .i64))) : (Ty.rd l.length (l.map ivz)).p W (.slice a n cap) := by
  subst hl
  exact ⟨a, cap, rfl, hn, hN, hr⟩
end Go.Proofs.Ytbjlmhbpcopfbaa
