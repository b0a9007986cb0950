/- Joined: StraA, StraB, TyH, StraC, StraG, RPeelA, RPeelB, SetR, TabQ, RPeelC, StraH. -/
import Derived.Test.YtgmeagkolahkoaaDoorZStrataRawCard4
/- Strata by types: a row of tables; a strata. -/
namespace Go.Proofs.YtgmeagkolahkoaaDoor
open Go.RowKit

abbrev StT : TypeId := 31
def flatT (sd : Nat) (ss : List Value) : List Value := ss.flatMap fun s => [.int .u64 (sd : Int), s]
theorem flatT_len (sd : Nat) (ss : List Value) : (flatT sd ss).length = ss.length * 2 := by
  induction ss with
  | nil => rfl
  | cons s ss ih =>
    have : flatT sd (s :: ss) = .int .u64 (sd : Int) :: s :: flatT sd ss := rfl
    rw [this, List.length_cons, List.length_cons, ih, List.length_cons]
    omega
theorem flatT_at (sd : Nat) : ∀ (ss : List Value) {k : Nat}, k < ss.length → (flatT sd ss).drop (k * 2) = [.int .u64 (sd : Int), ss.getD k nilS] ++ flatT sd (ss.drop (k + 1))
  | [], _, h => by simp at h
  | s :: ss, 0, _ => rfl
  | s :: ss, k + 1, h => by
    have : flatT sd (s :: ss) = .int .u64 (sd : Int) :: s :: flatT sd ss := rfl
    rw [this, show (k + 1) * 2 = k * 2 + 1 + 1 by omega, List.drop_succ_cons, List.drop_succ_cons, flatT_at sd ss (by simpa using h)]
    rfl
theorem flatT_snoc (sd : Nat) (ss : List Value) (s : Value) : flatT sd (ss ++ [s]) = flatT sd ss ++ [.int .u64 (sd : Int), s] := by
  unfold flatT
  rw [List.flatMap_append]
  rfl
/-- All of ss read the rows Ls. -/
def Slc (w : World) (e : TypeId) (ss : List Value) (Ls : List (List Cl)) : Prop := ss.length = Ls.length ∧ ∀ k, k < Ls.length → SlP w e (ss.getD k nilS) (Ls.getD k []).length (flatC (Ls.getD k []))
theorem Slc.nil (w : World) (e : TypeId) : Slc w e [] [] := ⟨rfl, fun k h => by simp at h⟩
theorem Slc.snoc {w : World} {e : TypeId} {ss : List Value} {Ls : List (List Cl)} (h : Slc w e ss Ls) {s : Value} {L : List Cl} (hs : SlP w e s L.length (flatC L)) : Slc w e (ss ++ [s]) (Ls ++ [L]) := by
  refine ⟨by rw [List.length_append, List.length_append, h.1]; rfl, fun k hk => ?_⟩
  rw [List.length_append, List.length_singleton] at hk
  by_cases hl : k < Ls.length
  · rw [show (ss ++ [s]).getD k nilS = ss.getD k nilS by simp [List.getD, List.getElem?_append_left (h.1 ▸ hl)], show (Ls ++ [L]).getD k [] = Ls.getD k [] by simp [List.getD, List.getElem?_append_left hl]]
    exact h.2 k hl
  · have hk : k = Ls.length := by omega
    have e1 : (ss ++ [s]).getD k nilS = s := by rw [hk, ← h.1]; simp [List.getD]
    have e2 : (Ls ++ [L]).getD k [] = L := by rw [hk]; simp [List.getD]
    rw [e1, e2]
    exact hs
theorem Slc.st {w w' : World} {e : TypeId} {ss : List Value} {Ls : List (List Cl)} {G : List Nat} (h : Slc w e ss Ls) (k : Keeps G w w') (hA : Apart w G (fun t => t == e)) : Slc w' e ss Ls := ⟨h.1, fun j hj => (Ty.cls e _).st (h.2 j hj) k hA⟩
theorem apart_l {w : World} {G : List Nat} {f g : TypeId → Bool} (h : Apart w G fun t => f t || g t) : Apart w G f := fun b hb hl => let ⟨cs, t, fr, k1, k2⟩ := h b hb hl; ⟨cs, t, fr, k1, (Bool.or_eq_false_iff.1 k2).1⟩
theorem apart_r {w : World} {G : List Nat} {f g : TypeId → Bool} (h : Apart w G fun t => f t || g t) : Apart w G g := fun b hb hl => let ⟨cs, t, fr, k1, k2⟩ := h b hb hl; ⟨cs, t, fr, k1, (Bool.or_eq_false_iff.1 k2).2⟩
/-- A row of tables, all of one seed. -/
def Ty.tabs (T e : TypeId) (sd : Nat) (Ls : List (List Cl)) : Ty := ⟨fun w v => ∃ ss, Slc w e ss Ls ∧ SlP w T v Ls.length (flatT sd ss), fun t => t == e || t == T, fun ⟨ss, h1, h2⟩ k hA => ⟨ss, h1.st k (apart_l hA), (Ty.sl T _ _).st h2 k (apart_r hA)⟩⟩
theorem Ty.tabs_isSl (T e : TypeId) (sd : Nat) (Ls : List (List Cl)) : IsSl (Ty.tabs T e sd Ls) Ls.length := fun _ _ ⟨_, _, A, c, h, _⟩ => ⟨A, c, h⟩
/-- A strata, its parts: a value of these two; an address that reads them; the address of the second. -/
def Ty.stra (T e : TypeId) (sd : Nat) (Ls : List (List Cl)) : Ty := ⟨fun w v => ∃ s, v = .agg #[.int .u64 (sd : Int), s] ∧ (Ty.tabs T e sd Ls).p w s, fun t => t == e || t == T, fun ⟨s, h1, h2⟩ k hA => ⟨s, h1, (Ty.tabs T e sd Ls).st h2 k hA⟩⟩
def Ty.straP (Z T e : TypeId) (sd : Nat) (Ls : List (List Cl)) : Ty := ⟨fun w v => ∃ s, (Ty.at_ Z [.int .u64 (sd : Int), s]).p w v ∧ (Ty.tabs T e sd Ls).p w s, fun t => t == Z || (t == e || t == T), fun ⟨s, h1, h2⟩ k hA => ⟨s, (Ty.at_ Z _).st h1 k (apart_l hA), (Ty.tabs T e sd Ls).st h2 k (apart_r hA)⟩⟩
def Ty.straL (Z T e : TypeId) (sd : Nat) (Ls : List (List Cl)) : Ty := ⟨fun w v => ∃ s, (Ty.at_ Z [s]).p w v ∧ (Ty.tabs T e sd Ls).p w s, fun t => t == Z || (t == e || t == T), fun ⟨s, h1, h2⟩ k hA => ⟨s, (Ty.at_ Z _).st h1 k (apart_l hA), (Ty.tabs T e sd Ls).st h2 k (apart_r hA)⟩⟩
section
variable {P : Program} {w0 : World} {Γ : Ctx} {o : Oper} {x ix : Operand} {T e Z : TypeId} {sd : Nat} {Ls : List (List Cl)}
theorem cIndexTab {t : TypeId} {kd : IntKind} {k : Nat} (ho : o.op = .indexAddr t x ix) (hx : Has w0 Γ x (Ty.tabs T e sd Ls)) (hi : OpT Γ ix (Ty.ex (.int kd (k : Int)))) (hu : P.underlying t = some (.slice T)) (hz : (P.info? T).map (·.size) = some 2) (hk : k < Ls.length) : OpOk P w0 Γ o (Ty.tabP T e sd (Ls.getD k [])) :=
  .val fun a w hb hs => by
    obtain ⟨v, h1, ss, ⟨hl, hss⟩, hsl⟩ := hx.see hs (by simp [ho, Op.operands]) hb
    obtain ⟨i, h5, h6⟩ := hs ix _ (by simp [ho, Op.operands]) hi
    have h6 : i = .int kd (k : Int) := h6
    have hsl0 := hsl
    obtain ⟨A, c, rfl, _, _, _, _⟩ := hsl0
    obtain ⟨g, off, rfl, hat⟩ := SlP.elem hsl (k := k * 2) (by rw [flatT_len]; omega)
    have hat := hat (k * 2)
    rw [flatT_at sd ss (by omega)] at hat
    obtain ⟨inf, hinf, hsz⟩ := Option.map_eq_some_iff.1 hz
    refine ⟨_, ⟨ss.getD k nilS, at_pre _ _ hat, hss k hk⟩, ?_⟩
    unfold execOp
    simp [ho, h1, h5, h6, Instr.indexAt, asIntOf, run_underlying hu, hk, sizeOf, typeInfo, hinf, hsz, Addr.add_lit]
end
abbrev StTR : TypeId := 45
section
variable {w0 : World} {Γ : Ctx} {o : Oper} {x ix : Operand} {T e : TypeId} {sd : Nat} {Ls : List (List Cl)}
theorem sizeTLA : (Tryd.prog.info? 29).map (·.size) = some 1 := by kernel_rfl
theorem infoStA : (Tryd.prog.info? StT).map (fun i => (i.zero, i.size, i.bytes)) = some (some (.agg #[.int .u64 0, nilS]), 2, 32) := by kernel_rfl
theorem sizeStA : (Tryd.prog.info? StT).map (·.size) = some 2 := by kernel_rfl
theorem cStraSA (ho : o.op = .fieldAddr StT x 0) (hx : Has w0 Γ x (Ty.straP StT T e sd Ls)) : OpOk Tryd.prog w0 Γ o (Ty.at_ StT [.int .u64 (sd : Int)]) :=
  .val fun a w hb hs => by
    obtain ⟨v, h1, s, ⟨g, off, cs, fr, rfl, h2, h3⟩, k1⟩ := hx.see hs (by simp [ho, Op.operands]) hb
    have hr := run_fieldAt (P := Tryd.prog) (i := 0) Tryd.underlying31 rfl size_u64 g off w
    refine ⟨.pointer (some ⟨g, off + 0, none⟩), ⟨g, off + 0, cs, fr, rfl, h2, fun j u hu => ?_⟩, ?_⟩
    · cases j with
      | zero => exact h3 0 u hu
      | succ j => simp at hu
    · unfold execOp
      simp [ho, h1, hr]
theorem cStraLA (ho : o.op = .fieldAddr StT x 1) (hx : Has w0 Γ x (Ty.straP StT T e sd Ls)) : OpOk Tryd.prog w0 Γ o (Ty.straL StT T e sd Ls) :=
  .val fun a w hb hs => by
    obtain ⟨v, h1, s, ⟨g, off, cs, fr, rfl, h2, h3⟩, k1⟩ := hx.see hs (by simp [ho, Op.operands]) hb
    have hr := run_fieldAt (P := Tryd.prog) (i := 1) Tryd.underlying31 rfl sizeTLA g off w
    refine ⟨.pointer (some ⟨g, off + 1, none⟩), ⟨s, ⟨g, off + 1, cs, fr, rfl, h2, fun j u hu => ?_⟩, k1⟩, ?_⟩
    · cases j with
      | zero => exact h3 1 u hu
      | succ j => simp at hu
    · unfold execOp
      simp [ho, h1, hr]
theorem cLoadTsA (ho : o.op = .load 29 x) (hx : Has w0 Γ x (Ty.straL StT T e sd Ls)) : OpOk Tryd.prog w0 Γ o (Ty.tabs T e sd Ls) :=
  .val fun a w hb hs => by
    obtain ⟨v, h1, s, hat, hsl⟩ := hx.see hs (by simp [ho, Op.operands]) hb
    obtain ⟨ad, rfl, h3⟩ := pts_at _ _ w v hat
    refine ⟨s, hsl, ?_⟩
    have h4 := run_loadVar_one (P := Tryd.prog) h3 Tryd.underlying29 rfl
    unfold execOp
    simp [ho, h1, Instr.loadAt, Instr.sureAddr, h4]
theorem cLoadStA (ho : o.op = .load StT x) (hx : Has w0 Γ x (Ty.straP StT T e sd Ls)) : OpOk Tryd.prog w0 Γ o (Ty.stra T e sd Ls) :=
  .val fun a w hb hs => by
    obtain ⟨v, h1, s, hat, hsl⟩ := hx.see hs (by simp [ho, Op.operands]) hb
    obtain ⟨ad, rfl, h3⟩ := pts_at _ _ w v hat
    refine ⟨.agg #[.int .u64 (sd : Int), s], ⟨s, rfl, hsl⟩, ?_⟩
    have h4 := run_loadVar_rd (P := Tryd.prog) h3 Tryd.underlying31 rfl (by rw [sizeStA]; rfl)
    unfold execOp
    simp [ho, h1, Instr.loadAt, Instr.sureAddr, h4]
theorem cIdxTA {kd : IntKind} {k : Nat} (ho : o.op = .indexAddr 29 x ix) (hx : Has w0 Γ x (Ty.tabs 38 e sd Ls)) (hi : OpT Γ ix (Ty.ex (.int kd (k : Int)))) (hk : k < Ls.length) : OpOk Tryd.prog w0 Γ o (Ty.tabP 38 e sd (Ls.getD k [])) := cIndexTab ho hx hi Tryd.underlying29 sizeT46 hk
theorem cLenTA (ho : o.op = .call { callee := .builtin .len, args := #[x], argTypes := #[29] }) (hx : Has w0 Γ x (Ty.tabs T e sd Ls)) : OpOk Tryd.prog w0 Γ o (Ty.ex (.int .i64 (Ls.length : Int))) := cLenH ho hx (Ty.tabs_isSl _ _ _ _) Tryd.underlying29
theorem sizeTLR : (Tryd.prog.info? 43).map (·.size) = some 1 := by kernel_rfl
theorem infoStR : (Tryd.prog.info? StTR).map (fun i => (i.zero, i.size, i.bytes)) = some (some (.agg #[.int .u64 0, nilS]), 2, 32) := by kernel_rfl
theorem sizeStR : (Tryd.prog.info? StTR).map (·.size) = some 2 := by kernel_rfl
theorem cStraSR (ho : o.op = .fieldAddr StTR x 0) (hx : Has w0 Γ x (Ty.straP StTR T e sd Ls)) : OpOk Tryd.prog w0 Γ o (Ty.at_ StTR [.int .u64 (sd : Int)]) :=
  .val fun a w hb hs => by
    obtain ⟨v, h1, s, ⟨g, off, cs, fr, rfl, h2, h3⟩, k1⟩ := hx.see hs (by simp [ho, Op.operands]) hb
    have hr := run_fieldAt (P := Tryd.prog) (i := 0) Tryd.underlying45 rfl size_u64 g off w
    refine ⟨.pointer (some ⟨g, off + 0, none⟩), ⟨g, off + 0, cs, fr, rfl, h2, fun j u hu => ?_⟩, ?_⟩
    · cases j with
      | zero => exact h3 0 u hu
      | succ j => simp at hu
    · unfold execOp
      simp [ho, h1, hr]
theorem cStraLR (ho : o.op = .fieldAddr StTR x 1) (hx : Has w0 Γ x (Ty.straP StTR T e sd Ls)) : OpOk Tryd.prog w0 Γ o (Ty.straL StTR T e sd Ls) :=
  .val fun a w hb hs => by
    obtain ⟨v, h1, s, ⟨g, off, cs, fr, rfl, h2, h3⟩, k1⟩ := hx.see hs (by simp [ho, Op.operands]) hb
    have hr := run_fieldAt (P := Tryd.prog) (i := 1) Tryd.underlying45 rfl sizeTLR g off w
    refine ⟨.pointer (some ⟨g, off + 1, none⟩), ⟨s, ⟨g, off + 1, cs, fr, rfl, h2, fun j u hu => ?_⟩, k1⟩, ?_⟩
    · cases j with
      | zero => exact h3 1 u hu
      | succ j => simp at hu
    · unfold execOp
      simp [ho, h1, hr]
theorem cLoadTsR (ho : o.op = .load 43 x) (hx : Has w0 Γ x (Ty.straL StTR T e sd Ls)) : OpOk Tryd.prog w0 Γ o (Ty.tabs T e sd Ls) :=
  .val fun a w hb hs => by
    obtain ⟨v, h1, s, hat, hsl⟩ := hx.see hs (by simp [ho, Op.operands]) hb
    obtain ⟨ad, rfl, h3⟩ := pts_at _ _ w v hat
    refine ⟨s, hsl, ?_⟩
    have h4 := run_loadVar_one (P := Tryd.prog) h3 Tryd.underlying43 rfl
    unfold execOp
    simp [ho, h1, Instr.loadAt, Instr.sureAddr, h4]
theorem cLoadStR (ho : o.op = .load StTR x) (hx : Has w0 Γ x (Ty.straP StTR T e sd Ls)) : OpOk Tryd.prog w0 Γ o (Ty.stra T e sd Ls) :=
  .val fun a w hb hs => by
    obtain ⟨v, h1, s, hat, hsl⟩ := hx.see hs (by simp [ho, Op.operands]) hb
    obtain ⟨ad, rfl, h3⟩ := pts_at _ _ w v hat
    refine ⟨.agg #[.int .u64 (sd : Int), s], ⟨s, rfl, hsl⟩, ?_⟩
    have h4 := run_loadVar_rd (P := Tryd.prog) h3 Tryd.underlying45 rfl (by rw [sizeStR]; rfl)
    unfold execOp
    simp [ho, h1, Instr.loadAt, Instr.sureAddr, h4]
theorem cIdxTR {kd : IntKind} {k : Nat} (ho : o.op = .indexAddr 43 x ix) (hx : Has w0 Γ x (Ty.tabs 72 e sd Ls)) (hi : OpT Γ ix (Ty.ex (.int kd (k : Int)))) (hk : k < Ls.length) : OpOk Tryd.prog w0 Γ o (Ty.tabP 72 e sd (Ls.getD k [])) := cIndexTab ho hx hi Tryd.underlying43 sizeT83 hk
theorem cLenTR (ho : o.op = .call { callee := .builtin .len, args := #[x], argTypes := #[43] }) (hx : Has w0 Γ x (Ty.tabs T e sd Ls)) : OpOk Tryd.prog w0 Γ o (Ty.ex (.int .i64 (Ls.length : Int))) := cLenH ho hx (Ty.tabs_isSl _ _ _ _) Tryd.underlying43
end
end Go.Proofs.YtgmeagkolahkoaaDoor

/- Strata by types: Cells, Good. -/
namespace Go.Proofs.YtgmeagkolahkoaaDoor
open Go.RowKit

section
variable {P : Program} {w0 : World} {Γ : Ctx} {o : Oper}
/-- A call through a closure. -/
theorem cCallCT {f : FuncId} {ats : Array TypeId} {x0 x : Operand} {cb : Array Value} {τ ρ : Ty} (ho : o.op = .call { callee := .value x0, args := #[x], argTypes := ats }) (h0 : OpT Γ x0 (Ty.ex (.func (.func f) #[] cb))) (hx : Has w0 Γ x τ) (he : Enters P f) (hc : ∀ w v, Below w0.heap.size w0 w → τ.p w v → Ret P f (#[v] ++ cb) w ρ) : OpOk P w0 Γ o ρ :=
  .call fun a w hb hs => by
    obtain ⟨v0, k1, k2⟩ := hs x0 _ (by simp [ho, Op.operands, Call.operands]) h0
    have k2 : v0 = .func (.func f) #[] cb := k2
    obtain ⟨u, h1, h2⟩ := hx.see hs (by simp [ho, Op.operands, Call.operands]) hb
    refine ⟨f, #[u] ++ cb, ?_, hc w u hb h2⟩
    rw [exec_goV a.eval ho (k1.trans k2)]
    simp only [List.map_toArray, List.map_cons, List.map_nil, h1]
    exact he _ w
end
section
variable {w0 : World} {Γ : Ctx} {o : Oper} {x : Operand} {e : TypeId} {xs : List Value}
theorem cSt0 (ho : o.op = .fieldAddr StT x 0) (hx : Has w0 Γ x (Ty.at_ e xs)) : OpOk Tryd.prog w0 Γ o (Ty.at_ e xs) :=
  (cFieldE (P := Tryd.prog) ho hx Tryd.underlying31 rfl size_u64).conv fun _ _ h => h
theorem cSt1 (ho : o.op = .fieldAddr StT x 1) (hx : Has w0 Γ x (Ty.at_ e xs)) : OpOk Tryd.prog w0 Γ o (Ty.at_ e (xs.drop 1)) :=
  cFieldE (P := Tryd.prog) ho hx Tryd.underlying31 rfl sizeTLA
end
/-- All tables are of 24 cells. -/
def allG (Ls : List (List Cl)) : Bool := Ls.all fun L => decide (L.length = 24)
theorem goodSt_is (Ls : List (List Cl)) : goodSt Ls = (decide (Ls.length = 10) && allG Ls) := rfl
theorem allG_bad {Ls : List (List Cl)} {k : Nat} (hk : k < Ls.length) (h : ¬ (Ls.getD k []).length = 24) : allG Ls = false := by
  unfold allG
  rw [List.all_eq_false]
  exact ⟨Ls[k], List.getElem_mem hk, by simpa [List.getD, List.getElem?_eq_getElem hk] using h⟩
theorem allG_all {Ls : List (List Cl)} (h : ∀ k, k < Ls.length → (Ls.getD k []).length = 24) : allG Ls = true := by
  unfold allG
  rw [List.all_eq_true]
  intro c hc
  obtain ⟨k, hk, rfl⟩ := List.getElem_of_mem hc
  simpa [List.getD, List.getElem?_eq_getElem hk] using h k hk
theorem goodSt_get {Ls : List (List Cl)} (h : goodSt Ls = true) : Ls.length = 10 ∧ ∀ k, k < 10 → (Ls.getD k []).length = 24 := by
  rw [goodSt_is, Bool.and_eq_true] at h
  have hl := of_decide_eq_true h.1
  refine ⟨hl, fun k hk => Classical.byContradiction fun hb => ?_⟩
  rw [allG_bad (by omega) hb] at h
  cases h.2
abbrev oddFn (p : Value) : Value := .func (.func 30) #[] #[p]
set_option maxRecDepth 100000 in
theorem odd_ret (sd : Nat) (L : List Cl) (s p : Value) (w : World) (v : Value) (hv : (Ty.tab 27 sd L).p w v) (hp : (Ty.at_ StT [.int .u64 (sd : Int), s]).p w p) : Ret Tryd.prog 30 #[v, p] w (Ty.ex (.bool (!decide (L.length = 24)))) := by
  obtain ⟨s2, rfl, hs⟩ := hv
  by_cases hl : L.length = 24
  · rw [decide_eq_true hl]
    refine enter_ty 15 [Ty.ex (.agg #[.int .u64 (sd : Int), s2]), Ty.ex p] Tryd.func30 rfl (by kernel_rfl) ⟨rfl, rfl, trivial⟩ fun a hF => ?_
    have hB := Below.refl w.heap.size w
    repeat with_reducible first | refine wp_seq ?_ | refine nThen ?_ | refine wp_ret ?_
    refine' reg_all hF ?_ mixed (by kernel_rfl) ?_
    rotate_left
    · repeat (first
          | exact Line.nil
          | (refine' Line.cons rfl (.no rfl rfl rfl rfl rfl rfl) ?_; rotate_left)
          | ((first | refine' Line.cons rfl (.run rfl rfl ?_) ?_ | refine' Line.cons rfl (.yes rfl rfl rfl rfl ?_) ?_)
             any_goals (first | exact cMove rfl rfl | exact cAssign rfl rfl | exact cBoxTab rfl rfl | exact cPickT rfl rfl rfl | exact cPickF rfl rfl rfl | exact cNeq rfl rfl rfl)
             rotate_left))
    intro a w1 hF hb hN
    have hBs := hB.size
    replace hB := hB.trans (hb.mono hB.size)
    dsimp only [ext, Option.getD] at hF
    repeat with_reducible first | refine wp_seq ?_ | refine nThen ?_ | refine wp_ret ?_
    have hs1 := (Ty.cls 27 L).below hs hB
    have hp1 := (Ty.at_ StT _).below hp hB
    refine' reg_all hF ?_ mixed (by kernel_rfl) ?_
    rotate_left
    · repeat (first
          | exact Line.nil
          | (refine' Line.cons rfl (.no rfl rfl rfl rfl rfl rfl) ?_; rotate_left)
          | ((first | refine' Line.cons rfl (.run rfl rfl ?_) ?_ | refine' Line.cons rfl (.yes rfl rfl rfl rfl ?_) ?_)
             any_goals (first | exact cMove rfl rfl | exact cAssign rfl rfl | exact cFldL46 rfl (.t rfl) | exact cRowOf46 rfl (.t rfl) | exact cLenH rfl (.l rfl hs1) (Ty.sl_isSl _ _ _) Tryd.underlying36 | exact OpOk.b (c := false) (cNeq rfl rfl rfl) (by simp [hl]) | exact cFldS46 rfl (.t rfl) | exact cSt0 rfl (.l rfl hp1) | exact cLoadU64 rfl (.t rfl) | exact OpOk.b (c := false) (cNeq rfl rfl rfl) (by simp) | exact cPickT rfl rfl rfl | exact cPickF rfl rfl rfl | exact cNeq rfl rfl rfl)
             rotate_left))
    intro a w2 hF hb hN
    have hBs := hB.size
    replace hB := hB.trans (hb.mono hB.size)
    dsimp only [ext, Option.getD] at hF
    repeat with_reducible first | refine wp_seq ?_ | refine nThen ?_ | refine wp_ret ?_
    refine ret1 hF rfl rfl fun z hz => ?_
    exact ⟨z, rfl, hz, hB⟩
  · rw [decide_eq_false hl]
    refine enter_ty 15 [Ty.ex (.agg #[.int .u64 (sd : Int), s2]), Ty.ex p] Tryd.func30 rfl (by kernel_rfl) ⟨rfl, rfl, trivial⟩ fun a hF => ?_
    have hB := Below.refl w.heap.size w
    repeat with_reducible first | refine wp_seq ?_ | refine nThen ?_ | refine wp_ret ?_
    refine' reg_all hF ?_ mixed (by kernel_rfl) ?_
    rotate_left
    · repeat (first
          | exact Line.nil
          | (refine' Line.cons rfl (.no rfl rfl rfl rfl rfl rfl) ?_; rotate_left)
          | ((first | refine' Line.cons rfl (.run rfl rfl ?_) ?_ | refine' Line.cons rfl (.yes rfl rfl rfl rfl ?_) ?_)
             any_goals (first | exact cMove rfl rfl | exact cAssign rfl rfl | exact cBoxTab rfl rfl | exact cPickT rfl rfl rfl | exact cPickF rfl rfl rfl | exact cNeq rfl rfl rfl)
             rotate_left))
    intro a w1 hF hb hN
    have hBs := hB.size
    replace hB := hB.trans (hb.mono hB.size)
    dsimp only [ext, Option.getD] at hF
    repeat with_reducible first | refine wp_seq ?_ | refine nThen ?_ | refine wp_ret ?_
    have hs1 := (Ty.cls 27 L).below hs hB
    refine' reg_all hF ?_ mixed (by kernel_rfl) ?_
    rotate_left
    · repeat (first
          | exact Line.nil
          | (refine' Line.cons rfl (.no rfl rfl rfl rfl rfl rfl) ?_; rotate_left)
          | ((first | refine' Line.cons rfl (.run rfl rfl ?_) ?_ | refine' Line.cons rfl (.yes rfl rfl rfl rfl ?_) ?_)
             any_goals (first | exact cMove rfl rfl | exact cAssign rfl rfl | exact cFldL46 rfl (.t rfl) | exact cRowOf46 rfl (.t rfl) | exact cLenH rfl (.l rfl hs1) (Ty.sl_isSl _ _ _) Tryd.underlying36 | exact OpOk.b (c := true) (cNeq rfl rfl rfl) (by simp; omega) | exact cPickT rfl rfl rfl | exact cPickF rfl rfl rfl | exact cNeq rfl rfl rfl)
             rotate_left))
    intro a w2 hF hb hN
    have hBs := hB.size
    replace hB := hB.trans (hb.mono hB.size)
    dsimp only [ext, Option.getD] at hF
    repeat with_reducible first | refine wp_seq ?_ | refine nThen ?_ | refine wp_ret ?_
    refine ret1 hF rfl rfl fun z hz => ?_
    exact ⟨z, rfl, hz, hB⟩
/-- A place, or -1. -/
def Ty.idx (b : Bool) : Ty := ⟨fun _ v => ∃ r : Int, v = .int .i64 r ∧ decide (0 ≤ r) = b, fun _ => false, fun h _ _ => h⟩
theorem cGeqIdx {P : Program} {w0 : World} {Γ : Ctx} {o : Oper} {t t2 : TypeId} {x : Operand} {b : Bool} (ho : o.op = .binOp .geq t x (.const (.int .i64 0)) t2) (hx : OpT Γ x (Ty.idx b)) : OpOk P w0 Γ o (Ty.ex (.bool b)) :=
  .val fun a w _ hs => by
    obtain ⟨v, h1, r, h2, h3⟩ := hs x _ (by simp [ho, Op.operands]) hx
    have hc : a.eval (.const (.int .i64 0)) = .int .i64 0 := rfl
    refine ⟨_, rfl, ?_⟩
    unfold execOp
    simp only [ho, h1, h2, hc]
    rw [← h3]
    simp [eqGuard, binOp, Op.intCmp]
set_option maxRecDepth 100000 in
theorem idxT_any (sd : Nat) (Ls : List (List Cl)) (s p : Value) (w : World) (v : Value) (hv : (Ty.tabs 38 27 sd Ls).p w v) (hL : Ls.length ≤ 1000000) (hp : (Ty.at_ StT [.int .u64 (sd : Int), s]).p w p) : Ret Tryd.prog 62 #[v, oddFn p] w (Ty.idx (!allG Ls)) := by
  have he : Enters Tryd.prog 30 := fun args w => by kernel_rfl
  let TL := Ty.tabs 38 27 sd Ls
  let TP := Ty.at_ StT [.int .u64 (sd : Int), s]
  refine enter_ty 19 [Ty.ex v, Ty.ex (oddFn p)] Tryd.func62 rfl (by kernel_rfl) ⟨rfl, rfl, trivial⟩ fun a hF => ?_
  have hB := Below.refl w.heap.size w
  repeat with_reducible first | refine wp_seq ?_ | refine nThen ?_ | refine nBlk ?_ | refine wp_skip ?_ | refine wp_block ?_ | refine wp_exit ?_ | refine xThen ?_ | refine xHere ?_ | refine wp_ret ?_ | refine rThen ?_ | refine rBlk ?_
  refine' reg_all hF ?_ mixed (by kernel_rfl) ?_
  rotate_left
  · repeat (first
        | exact Line.nil
        | ((refine' Line.cons rfl (.run rfl rfl ?_) ?_)
           any_goals (first | exact cMove rfl rfl | exact cAssign rfl rfl | exact cLss rfl rfl rfl)
           rotate_left))
  intro a w1 hF hb hN
  have hBs := hB.size
  replace hB := hB.trans (hb.mono hB.size)
  dsimp only [ext, Option.getD] at hF
  repeat with_reducible first | refine wp_seq ?_ | refine nThen ?_ | refine nBlk ?_ | refine wp_skip ?_ | refine wp_block ?_ | refine wp_exit ?_ | refine xThen ?_ | refine xHere ?_ | refine wp_ret ?_ | refine rThen ?_ | refine rBlk ?_
  refine' reg_all hF ?_ mixed (by kernel_rfl) ?_
  rotate_left
  · repeat (first
        | exact Line.nil
        | ((refine' Line.cons rfl (.run rfl rfl ?_) ?_)
           any_goals (first | exact cMove rfl rfl | exact cAssign rfl rfl | exact cLenTA rfl (.l rfl (TL.below hv hB)) | exact cLss rfl rfl rfl)
           rotate_left))
  intro a w2 hF hb hN
  have hBs := hB.size
  replace hB := hB.trans (hb.mono hB.size)
  dsimp only [ext, Option.getD] at hF
  repeat with_reducible first | refine wp_seq ?_ | refine nThen ?_ | refine nBlk ?_ | refine wp_skip ?_ | refine wp_block ?_ | refine wp_exit ?_ | refine xThen ?_ | refine xHere ?_ | refine wp_ret ?_ | refine rThen ?_ | refine rBlk ?_
  refine loop_ty (fun m a wr => ∃ k : Nat, k + m = Ls.length ∧ Fr 19 [(0, Ty.ex v), (1, Ty.ex (oddFn p)), (7, Ty.ex (.int .i64 (Ls.length : Int))), (8, Ty.ex (.int .i64 (k : Int)))] a wr ∧ Below w.heap.size w wr ∧ ∀ j, j < k → (Ls.getD j []).length = 24) Ls.length ?_ ?_
  · exact ⟨0, by omega, hF.keep [0, 1, 7, 8], hB, fun j hj => by omega⟩
  clear hF hB
  rintro m a wr ⟨k, hk, hF, hB, hlo⟩
  repeat with_reducible first | refine wp_seq ?_ | refine nThen ?_ | refine nBlk ?_ | refine wp_skip ?_ | refine wp_block ?_ | refine wp_exit ?_ | refine xThen ?_ | refine xHere ?_ | refine wp_ret ?_ | refine rThen ?_ | refine rBlk ?_
  refine' reg_all hF ?_ mixed (by kernel_rfl) ?_
  rotate_left
  · repeat (first
        | exact Line.nil
        | ((refine' Line.cons rfl (.run rfl rfl ?_) ?_)
           any_goals (first | exact cMove rfl rfl | exact cAssign rfl rfl | exact cLss rfl rfl rfl)
           rotate_left))
  intro a w3 hF hb hN
  have hBs := hB.size
  replace hB := hB.trans (hb.mono hB.size)
  dsimp only [ext, Option.getD] at hF
  repeat with_reducible first | refine wp_seq ?_ | refine nThen ?_ | refine nBlk ?_ | refine wp_skip ?_ | refine wp_block ?_ | refine wp_exit ?_ | refine xThen ?_ | refine xHere ?_ | refine wp_ret ?_ | refine rThen ?_ | refine rBlk ?_
  refine cond_ty hF rfl (fun hlt => ?_) (fun hge => ?_)
  · have hlt : k < Ls.length := by have := of_decide_eq_true hlt; omega
    repeat with_reducible first | refine wp_seq ?_ | refine nThen ?_ | refine nBlk ?_ | refine wp_skip ?_ | refine wp_block ?_ | refine wp_exit ?_ | refine xThen ?_ | refine xHere ?_ | refine wp_ret ?_ | refine rThen ?_ | refine rBlk ?_
    refine' reg_all hF ?_ mixed (by kernel_rfl) ?_
    rotate_left
    · repeat (first
          | exact Line.nil
          | ((refine' Line.cons rfl (.run rfl rfl ?_) ?_)
             any_goals (first | exact cMove rfl rfl | exact cAssign rfl rfl | exact cLss rfl rfl rfl)
             rotate_left))
    intro a w4 hF hb hN
    have hBs := hB.size
    replace hB := hB.trans (hb.mono hB.size)
    dsimp only [ext, Option.getD] at hF
    repeat with_reducible first | refine wp_seq ?_ | refine nThen ?_ | refine nBlk ?_ | refine wp_skip ?_ | refine wp_block ?_ | refine wp_exit ?_ | refine xThen ?_ | refine xHere ?_ | refine wp_ret ?_ | refine rThen ?_ | refine rBlk ?_
    have hv4 := TL.below hv hB
    have hp4 := TP.below hp hB
    refine' reg_all hF ?_ mixed (by kernel_rfl) ?_
    rotate_left
    · repeat (first
          | exact Line.nil
          | ((refine' Line.cons rfl (.run rfl rfl ?_) ?_)
             any_goals (first | exact cMove rfl rfl | exact cAssign rfl rfl | exact cIdxTA (k := k) rfl (.l rfl hv4) rfl hlt | exact cLoadTab46 rfl (.t rfl) | exact cCallCT rfl rfl (.t rfl) he (fun W u hb hu => odd_ret sd (Ls.getD k []) s p W u hu (TP.below hp4 hb)) | exact cLss rfl rfl rfl)
             rotate_left))
    intro a w5 hF hb hN
    have hBs := hB.size
    replace hB := hB.trans (hb.mono hB.size)
    dsimp only [ext, Option.getD] at hF
    repeat with_reducible first | refine wp_seq ?_ | refine nThen ?_ | refine nBlk ?_ | refine wp_skip ?_ | refine wp_block ?_ | refine wp_exit ?_ | refine xThen ?_ | refine xHere ?_ | refine wp_ret ?_ | refine rThen ?_ | refine rBlk ?_
    refine cond_ty hF rfl (fun hc => ?_) (fun hc => ?_)
    · repeat with_reducible first | refine wp_seq ?_ | refine nThen ?_ | refine nBlk ?_ | refine wp_skip ?_ | refine wp_block ?_ | refine wp_exit ?_ | refine xThen ?_ | refine xHere ?_ | refine wp_ret ?_ | refine rThen ?_ | refine rBlk ?_
      refine' reg_all hF ?_ mixed (by kernel_rfl) ?_
      rotate_left
      · repeat (first
            | exact Line.nil
            | ((refine' Line.cons rfl (.run rfl rfl ?_) ?_)
               any_goals (first | exact cMove rfl rfl | exact cAssign rfl rfl | exact cLss rfl rfl rfl)
               rotate_left))
      intro a w6 hF hb hN
      have hBs := hB.size
      replace hB := hB.trans (hb.mono hB.size)
      dsimp only [ext, Option.getD] at hF
      repeat with_reducible first | refine wp_seq ?_ | refine nThen ?_ | refine nBlk ?_ | refine wp_skip ?_ | refine wp_block ?_ | refine wp_exit ?_ | refine xThen ?_ | refine xHere ?_ | refine wp_ret ?_ | refine rThen ?_ | refine rBlk ?_
      refine ret1 hF rfl rfl fun z hz => ?_
      refine ⟨z, rfl, ⟨(k : Int), hz, ?_⟩, hB⟩
      rw [allG_bad hlt (by simpa using hc)]
      exact decide_eq_true (by omega)
    · repeat with_reducible first | refine wp_seq ?_ | refine nThen ?_ | refine nBlk ?_ | refine wp_skip ?_ | refine wp_block ?_ | refine wp_exit ?_ | refine xThen ?_ | refine xHere ?_ | refine wp_ret ?_ | refine rThen ?_ | refine rBlk ?_
      refine' reg_all hF ?_ mixed (by kernel_rfl) ?_
      rotate_left
      · repeat (first
            | exact Line.nil
            | ((refine' Line.cons rfl (.run rfl rfl ?_) ?_)
               any_goals (first | exact cMove rfl rfl | exact cAssign rfl rfl | exact cAdd (r := ((k + 1 : Nat) : Int)) rfl rfl rfl (by omega) | exact cLss rfl rfl rfl)
               rotate_left))
      intro a w6 hF hb hN
      have hBs := hB.size
      replace hB := hB.trans (hb.mono hB.size)
      dsimp only [ext, Option.getD] at hF
      repeat with_reducible first | refine wp_seq ?_ | refine nThen ?_ | refine nBlk ?_ | refine wp_skip ?_ | refine wp_block ?_ | refine wp_exit ?_ | refine xThen ?_ | refine xHere ?_ | refine wp_ret ?_ | refine rThen ?_ | refine rBlk ?_
      refine ⟨m - 1, by omega, k + 1, by omega, hF.keep [0, 1, 7, 8], hB, fun j hj => ?_⟩
      by_cases hjk : j = k
      · subst hjk; simpa using hc
      · exact hlo j (by omega)
  · have hge : ¬ k < Ls.length := by have := of_decide_eq_false hge; omega
    repeat with_reducible first | refine wp_seq ?_ | refine nThen ?_ | refine nBlk ?_ | refine wp_skip ?_ | refine wp_block ?_ | refine wp_exit ?_ | refine xThen ?_ | refine xHere ?_ | refine wp_ret ?_ | refine rThen ?_ | refine rBlk ?_
    refine' reg_all hF ?_ mixed (by kernel_rfl) ?_
    rotate_left
    · repeat (first
          | exact Line.nil
          | ((refine' Line.cons rfl (.run rfl rfl ?_) ?_)
             any_goals (first | exact cMove rfl rfl | exact cAssign rfl rfl | exact cLss rfl rfl rfl)
             rotate_left))
    intro a w4 hF hb hN
    have hBs := hB.size
    replace hB := hB.trans (hb.mono hB.size)
    dsimp only [ext, Option.getD] at hF
    repeat with_reducible first | refine wp_seq ?_ | refine nThen ?_ | refine nBlk ?_ | refine wp_skip ?_ | refine wp_block ?_ | refine wp_exit ?_ | refine xThen ?_ | refine xHere ?_ | refine wp_ret ?_ | refine rThen ?_ | refine rBlk ?_
    refine ret1 hF rfl rfl fun z hz => ?_
    refine ⟨z, rfl, ⟨-1, hz, ?_⟩, hB⟩
    rw [allG_all fun j hj => hlo j (by omega)]
    rfl
set_option maxRecDepth 100000 in
theorem contT_any (sd : Nat) (Ls : List (List Cl)) (s p : Value) (w : World) (v : Value) (hv : (Ty.tabs 38 27 sd Ls).p w v) (hL : Ls.length ≤ 1000000) (hp : (Ty.at_ StT [.int .u64 (sd : Int), s]).p w p) : Ret Tryd.prog 31 #[v, oddFn p] w (Ty.ex (.bool (!allG Ls))) := by
  have he : Enters Tryd.prog 62 := fun args w => by kernel_rfl
  let TL := Ty.tabs 38 27 sd Ls
  let TP := Ty.at_ StT [.int .u64 (sd : Int), s]
  refine enter_ty 9 [Ty.ex v, Ty.ex (oddFn p)] Tryd.func31 rfl (by kernel_rfl) ⟨rfl, rfl, trivial⟩ fun a hF => ?_
  have hB := Below.refl w.heap.size w
  repeat with_reducible first | refine wp_seq ?_ | refine nThen ?_ | refine wp_ret ?_
  refine' reg_all hF ?_ mixed (by kernel_rfl) ?_
  rotate_left
  · repeat (first
        | exact Line.nil
        | ((refine' Line.cons rfl (.run rfl rfl ?_) ?_)
           any_goals (first | exact cMove rfl rfl | exact cAssign rfl rfl)
           rotate_left))
  intro a w1 hF hb hN
  have hBs := hB.size
  replace hB := hB.trans (hb.mono hB.size)
  dsimp only [ext, Option.getD] at hF
  repeat with_reducible first | refine wp_seq ?_ | refine nThen ?_ | refine wp_ret ?_
  have hv1 := TL.below hv hB
  have hp1 := TP.below hp hB
  refine' reg_all hF ?_ mixed (by kernel_rfl) ?_
  rotate_left
  · repeat (first
        | exact Line.nil
        | ((refine' Line.cons rfl (.run rfl rfl ?_) ?_)
           any_goals (first | exact cMove rfl rfl | exact cAssign rfl rfl | exact cCallX2 rfl rfl rfl he (fun W hb => idxT_any sd Ls s p W v (TL.below hv1 hb) hL (TP.below hp1 hb)) | exact cGeqIdx rfl rfl)
           rotate_left))
  intro a w2 hF hb hN
  have hBs := hB.size
  replace hB := hB.trans (hb.mono hB.size)
  dsimp only [ext, Option.getD] at hF
  repeat with_reducible first | refine wp_seq ?_ | refine nThen ?_ | refine wp_ret ?_
  refine ret1 hF rfl rfl fun z hz => ?_
  exact ⟨z, rfl, hz, hB⟩
set_option maxRecDepth 100000 in
/-- strata.Good -/
theorem sgood_ty (sd : Nat) (Ls : List (List Cl)) (hL : Ls.length ≤ 1000000) : Fn1 Tryd.prog 14 (Ty.stra 38 27 sd Ls) (Ty.ex (.bool (goodSt Ls))) := by
  refine ⟨fun args w => by kernel_rfl, fun w v ⟨s, hv, hs⟩ => ?_⟩
  subst hv
  have he : Enters Tryd.prog 31 := fun args w => by kernel_rfl
  let TL := Ty.tabs 38 27 sd Ls
  let TP := Ty.at_ StT [.int .u64 (sd : Int), s]
  rw [goodSt_is]
  refine enter_ty 16 [Ty.ex (.agg #[.int .u64 (sd : Int), s])] Tryd.func14 rfl (by kernel_rfl) ⟨rfl, trivial⟩ fun a hF => ?_
  have hB := Below.refl w.heap.size w
  repeat with_reducible first | refine wp_seq ?_ | refine nThen ?_ | refine wp_ret ?_
  refine' reg_all hF ?_ mixed (by kernel_rfl) ?_
  rotate_left
  · repeat (first
        | exact Line.nil
        | (refine' Line.cons rfl (.no rfl rfl rfl rfl rfl rfl) ?_; rotate_left)
        | ((first | refine' Line.cons rfl (.run rfl rfl ?_) ?_ | refine' Line.cons rfl (.yes rfl rfl rfl rfl ?_) ?_)
           any_goals (first | exact cMove rfl rfl | exact cAssign rfl rfl | exact cNot rfl rfl | exact cBoxTab rfl rfl | exact cPickT rfl rfl rfl | exact cPickF rfl rfl rfl | exact cEql rfl rfl rfl)
           rotate_left))
  intro a w1 hF hb hN
  have hBs := hB.size
  replace hB := hB.trans (hb.mono hB.size)
  dsimp only [ext, Option.getD] at hF
  repeat with_reducible first | refine wp_seq ?_ | refine nThen ?_ | refine wp_ret ?_
  obtain ⟨p, hp, hF⟩ := hF.open (s := 1) rfl
  have hp : TP.p w1 p := hp
  refine' reg_all hF ?_ mixed (by kernel_rfl) ?_
  rotate_left
  · repeat (first
        | exact Line.nil
        | (refine' Line.cons rfl (.no rfl rfl rfl rfl rfl rfl) ?_; rotate_left)
        | ((first | refine' Line.cons rfl (.run rfl rfl ?_) ?_ | refine' Line.cons rfl (.yes rfl rfl rfl rfl ?_) ?_)
           any_goals (first | exact cMove rfl rfl | exact cAssign rfl rfl | exact cNot rfl rfl | exact cMakeFunc rfl rfl | exact cPickT rfl rfl rfl | exact cPickF rfl rfl rfl | exact cEql rfl rfl rfl)
           rotate_left))
  intro a w2 hF hb hN
  have hBs := hB.size
  replace hB := hB.trans (hb.mono hB.size)
  dsimp only [ext, Option.getD] at hF
  repeat with_reducible first | refine wp_seq ?_ | refine nThen ?_ | refine wp_ret ?_
  replace hp := TP.below hp hb
  have hs2 := TL.below hs hB
  by_cases hl : Ls.length = 10
  · rw [decide_eq_true hl, Bool.true_and]
    refine' reg_all hF ?_ mixed (by kernel_rfl) ?_
    rotate_left
    · repeat (first
          | exact Line.nil
          | (refine' Line.cons rfl (.no rfl rfl rfl rfl rfl rfl) ?_; rotate_left)
          | ((first | refine' Line.cons rfl (.run rfl rfl ?_) ?_ | refine' Line.cons rfl (.yes rfl rfl rfl rfl ?_) ?_)
             any_goals (first | exact cMove rfl rfl | exact cAssign rfl rfl | exact cNot rfl rfl | exact cSt1 rfl (.l rfl hp) | exact cLoad1 (u := s) rfl (.t rfl) (pts_at _ _) Tryd.underlying29 rfl | exact cLenTA rfl (.l rfl hs2) | exact OpOk.b (c := true) (cEql rfl rfl rfl) (decide_eq_true (by omega)) | exact cCallX2 rfl rfl rfl he (fun W hb => contT_any sd Ls s p W s (TL.below hs2 hb) hL (TP.below hp hb)) | exact cPickT rfl rfl rfl | exact cPickF rfl rfl rfl | exact cEql rfl rfl rfl)
             rotate_left))
    intro a w3 hF hb hN
    have hBs := hB.size
    replace hB := hB.trans (hb.mono hB.size)
    dsimp only [ext, Option.getD] at hF
    repeat with_reducible first | refine wp_seq ?_ | refine nThen ?_ | refine wp_ret ?_
    refine ret1 hF rfl rfl fun z hz => ?_
    exact ⟨z, rfl, by rw [show z = .bool (!!allG Ls) from hz, Bool.not_not]; rfl, hB⟩
  · rw [decide_eq_false hl, Bool.false_and]
    refine' reg_all hF ?_ mixed (by kernel_rfl) ?_
    rotate_left
    · repeat (first
          | exact Line.nil
          | (refine' Line.cons rfl (.no rfl rfl rfl rfl rfl rfl) ?_; rotate_left)
          | ((first | refine' Line.cons rfl (.run rfl rfl ?_) ?_ | refine' Line.cons rfl (.yes rfl rfl rfl rfl ?_) ?_)
             any_goals (first | exact cMove rfl rfl | exact cAssign rfl rfl | exact cNot rfl rfl | exact cSt1 rfl (.l rfl hp) | exact cLoad1 (u := s) rfl (.t rfl) (pts_at _ _) Tryd.underlying29 rfl | exact cLenTA rfl (.l rfl hs2) | exact OpOk.b (c := false) (cEql rfl rfl rfl) (decide_eq_false (by omega)) | exact cPickT rfl rfl rfl | exact cPickF rfl rfl rfl | exact cEql rfl rfl rfl)
             rotate_left))
    intro a w3 hF hb hN
    have hBs := hB.size
    replace hB := hB.trans (hb.mono hB.size)
    dsimp only [ext, Option.getD] at hF
    repeat with_reducible first | refine wp_seq ?_ | refine nThen ?_ | refine wp_ret ?_
    refine ret1 hF rfl rfl fun z hz => ?_
    exact ⟨z, rfl, hz, hB⟩
end Go.Proofs.YtgmeagkolahkoaaDoor

/- Regions by types: a drawn region's store, for which an extract ahead of it in the text need not wait. -/
namespace Go.Proofs.YtgmeagkolahkoaaDoor
open Go.RowKit

theorem extract_wp {P : Program} {o : Oper} {x : Operand} {m : Nat} (ho : o.op = .extract x m) {a : Act} {w : World} {K : Act → World → Prop} {Q : Exit → Act → World → Prop} (h : o.wp P a w K Q) :
    ∃ v, K (a.put o.dst v) w ∧ ∀ (a' : Act) (w' : World) (K' : Act → World → Prop) (Q' : Exit → Act → World → Prop), a'.eval x = a.eval x → K' (a'.put o.dst v) w' → o.wp P a' w' K' Q' := by
  unfold Oper.wp execOp at h ⊢
  simp only [ho] at h ⊢
  cases hv : a.eval x with
  | tuple vs =>
    rw [hv] at h
    cases hi : vs[m]? with
    | some v =>
      simp only [Instr.extract, hi, Sem.run_bind, Sem.run_pure, Result.andThen_ok] at h
      refine ⟨v, h, fun a' w' K' Q' he hk => ?_⟩
      rw [he]
      simp only [Instr.extract, hi, Sem.run_bind, Sem.run_pure, Result.andThen_ok]
      exact hk
    | none =>
      simp only [Instr.extract, hi] at h
      exact h.elim
  | _ =>
    rw [hv] at h
    exact h.elim
/-- All of the first n but the q-th stand ahead of the n-th; all stand ahead of each later one. -/
def swapB (ops : Array Oper) (n q : Nat) : Bool := decide (q < n) && decide (n < ops.size) && ((List.range n).all fun i => i == q || Region.waitsFor .any ops n i) && ((List.range ops.size).all fun j => decide (j ≤ n) || (List.range j).all fun i => Region.waitsFor .any ops j i)
theorem swapB_at {ops : Array Oper} {n q : Nat} (h : swapB ops n q = true) : q < n ∧ n < ops.size ∧ (∀ i, i < n → i ≠ q → Region.waitsFor .any ops n i = true) ∧ ∀ j i, n < j → j < ops.size → i < j → Region.waitsFor .any ops j i = true := by
  unfold swapB at h
  simp only [Bool.and_eq_true, decide_eq_true_eq, List.all_eq_true, List.mem_range, Bool.or_eq_true, beq_iff_eq] at h
  obtain ⟨⟨⟨h1, h2⟩, h3⟩, h4⟩ := h
  refine ⟨h1, h2, fun i hi hne => (h3 i hi).resolve_left hne, fun j i hj hjs hij => ?_⟩
  rcases h4 j hjs with h | h
  · omega
  · exact h i hij
section
variable {P : Program} {w0 : World} {Γ : Ctx} {N : Nat} {Vs : List Ty} {a0 : Act}
theorem region_st {id : Nat} {Q : Exit → Act → World → Prop} {l : List Oper} {draw : Bool} (n q : Nat) {op oq : Oper} {dq m : Nat} {x sp sy : Operand} (hm : P.follows .mixedOrders = true) (hB : (regB l.toArray N n && swapB l.toArray n q) = true) (hsq : Region.seqB .any l.toArray (l.toArray.size - n) n (List.replicate n true ++ List.replicate (l.toArray.size - n) false).toArray = true) (hF : Fr N Γ a0 w0)
    (hop : l[n]? = some op) (hgp : op.guard = none) (hoq : l[q]? = some oq) (hgq : oq.guard = none) (hdq : oq.dst = some dq) (hox : oq.op = .extract x m)
    (hne : ∀ (a : Act) (v : Value), (a.put (some dq) v).eval sp = a.eval sp ∧ (a.put (some dq) v).eval sy = a.eval sy)
    (hL : Line P l.toArray w0 Γ (l.take n) Vs)
    (hQ : ∀ a w, Fr N (ext Γ (l.take n) Vs) a w → Below w0.heap.size w0 w → News (l.take n) a → ∃ w', (∀ (a' : Act), a'.eval sp = a.eval sp → a'.eval sy = a.eval sy → ∀ (K : Act → World → Prop) (Q' : Exit → Act → World → Prop), K a' w' → op.wp P a' w K Q') ∧ wpList P l.toArray Q (l.drop (n + 1)) a w') : (Code.region id l.toArray draw).wp P Q a0 w0 := by
  rw [Bool.and_eq_true] at hB
  obtain ⟨hB, hSw⟩ := hB
  obtain ⟨hqn, hns, hw1, hw2⟩ := swapB_at hSw
  have hsize : l.toArray.size = l.length := by simp
  have hnl : n ≤ l.toArray.size := by omega
  have hlen : n = (l.take n).length := by simp at hnl ⊢; omega
  have hli : ∀ i, i < n → (l.take n)[i]? = l.toArray[i]? := fun i hi => by simp [hi]
  have hback : ∀ i o, i < n → l.toArray[i]? = some o → ∀ e ∈ o.after, Region.binds .any e = true → e.on < i := fun i o hi ho e he hb => by
    obtain ⟨o', d, ho', _, _, h, _⟩ := regB_at hB hi
    obtain rfl : o = o' := Option.some.inj (ho.symm.trans ho')
    exact h e he hb
  have hdropn : l.drop n = op :: l.drop (n + 1) := by
    have h1 : n < l.length := by omega
    rw [List.drop_eq_getElem_cons h1]
    congr 1
    exact Option.some.inj ((List.getElem?_eq_getElem h1).symm.trans hop)
  have fin0 : ∀ (listed : Array Bool) a w, TInv N n (l.take n) Vs a0 w0 listed a w → (∀ i, i < n → listed.getD i false = true) → ∃ w', (∀ (a' : Act), a'.eval sp = a.eval sp → a'.eval sy = a.eval sy → ∀ (K : Act → World → Prop) (Q' : Exit → Act → World → Prop), K a' w' → op.wp P a' w K Q') ∧ wpList P l.toArray Q (l.drop (n + 1)) a w' := fun listed a w hI hall => by
    obtain ⟨h1, h2⟩ := hI.all hL hlen hF hall
    exact hQ a w h1 hI.below h2
  have fin : ∀ (listed : Array Bool) a w, TInv N n (l.take n) Vs a0 w0 listed a w → (∀ i, i < n → listed.getD i false = true) → wpList P l.toArray Q (l.drop n) a w := fun listed a w hI hall => by
    obtain ⟨w', h1, h2⟩ := fin0 listed a w hI hall
    rw [hdropn]
    refine wpList_plain hgp fun K hK => ?_
    exact h1 a rfl rfl K Q (hK _ _ h2)
  cases draw with
  | true =>
    have key : ∀ (f : Nat) (listed : Array Bool) (a : Act) (w : World), HeadInv .any l.toArray n listed → wanting n listed = f → TInv N n (l.take n) Vs a0 w0 listed a w → wpAny P .any l.toArray Q (f + (l.toArray.size - n)) listed a w := by
      intro f
      induction f with
      | zero =>
        intro listed a w hH h0 hI
        have hall := wanting_zero h0
        have hdl : (l.drop n).length = l.toArray.size - n := by simp
        have e := all_listed hH hall hnl
        have hseq : Region.seqB .any l.toArray (l.toArray.size - n) n listed = true := by rw [e]; exact hsq
        have := wpAny_of_seq (md := .any) (Q' := Q) (l.drop n) n listed a w (fun j => by simp [List.getElem?_drop]) (by rw [hdl]; exact hseq) (fin listed a w hI hall)
        rw [Nat.zero_add]
        rwa [hdl] at this
      | succ f ih =>
        intro listed a w hH h0 hI
        rw [show f + 1 + (l.toArray.size - n) = (f + (l.toArray.size - n)) + 1 by omega]
        have hex : ∃ i, i < n ∧ listed.getD i true = false := by
          refine Classical.byContradiction fun hno => ?_
          have hz : wanting n listed = 0 := by
            unfold wanting
            rw [List.length_eq_zero_iff, List.filter_eq_nil_iff]
            intro i hi
            have hi' := List.mem_range.1 hi
            have hl : i < listed.size := by rw [hH.size]; omega
            have h1 : ¬ listed.getD i true = false := fun h => hno ⟨i, hi', h⟩
            simp [Array.getD, hl] at h1 ⊢
            exact h1
          omega
        obtain ⟨i0, hi0, hun0⟩ := hex
        refine ⟨fun hr => ?_, fun i hi => ?_⟩
        · exfalso
          have := ready_head hback hnl hH.size hr i0 hi0
          rw [getD_both hun0] at this
          cases this
        · obtain ⟨h1, o, ho, h2⟩ := mem_ready.1 hi
          by_cases hin : i < n
          rotate_left
          · have hio := (Array.getElem?_eq_some_iff.1 ho).1
            have hui : listed.getD i false = false := getD_both h1
            have dep : ∀ k, Region.waitsFor .any l.toArray i k = true → listed.getD k false = true := fun k hk => by
              obtain ⟨oj, hoj, e, he, hb, hon⟩ := Region.waitsFor_spec hk
              obtain rfl : o = oj := Option.some.inj (ho.symm.trans hoj)
              have := h2 e he hb
              rwa [hon] at this
            have hien : i = n := by
              refine Classical.byContradiction fun hne' => ?_
              have := dep i0 (hw2 i i0 (by omega) hio (by omega))
              rw [getD_both hun0] at this
              cases this
            subst hien
            have hallq : ∀ k, k < i → k ≠ q → listed.getD k false = true := fun k hk hkq => dep k (hw1 k hk hkq)
            have hi0q : i0 = q := Classical.byContradiction fun h => by
              have := hallq i0 hi0 h
              rw [getD_both hun0] at this
              cases this
            subst hi0q
            have hoi : op = o := Option.some.inj ((by simpa using hop : l.toArray[i]? = some op).symm.trans ho)
            subst hoi
            have hoqa : l.toArray[i0]? = some oq := by simpa using hoq
            have hqdep : ∀ e ∈ oq.after, Region.binds .any e = true → listed.getD e.on false = true := fun e he hb => by
              have h5 := hback i0 oq hi0 hoqa e he hb
              exact hallq _ (by omega) (by omega)
            have hil0 : i0 < listed.size := by rw [hH.size]; omega
            have h3 := TInv.step hB hli hL hF hI hH.size hH.closed hi0 hoqa (getD_both hun0) hqdep (fun a' w' => TInv N i (l.take i) Vs a0 w0 (listed.setIfInBounds i0 true) a' w') Q (fun a' w' hI' => hI')
            rw [if_pos (by simp [Region.wanted, hgq])] at h3
            obtain ⟨v, h4, h5⟩ := extract_wp hox h3
            rw [hdq] at h4
            have hallS : ∀ k, k < i → (listed.setIfInBounds i0 true).getD k false = true := fun k hk => by
              by_cases hkq : i0 = k
              · subst hkq; simp [Array.getD, hil0]
              · rw [getD_set_ne false hkq]; exact hallq k hk (fun e => hkq e.symm)
            obtain ⟨w', h6, h7⟩ := fin0 _ _ _ h4 hallS
            unfold wpOp
            simp only [ho]
            rw [if_pos (by simp [Region.wanted, hgp])]
            refine .inl (h6 a (hne a v).1.symm (hne a v).2.symm _ _ ?_)
            have hsz : f + (l.toArray.size - i) = (l.toArray.size - i - 1) + 1 := by
              have hf0 : f = 0 := by
                have h9 := wanting_set hi0 hil0 (getD_both hun0)
                have hz : wanting i (listed.setIfInBounds i0 true) = 0 := by
                  unfold wanting
                  rw [List.length_eq_zero_iff, List.filter_eq_nil_iff]
                  intro k hk
                  have h8 := hallS k (List.mem_range.1 hk)
                  intro h10
                  simp only [Bool.not_eq_true'] at h10
                  rw [h10] at h8
                  cases h8
                omega
              omega
            rw [hsz]
            have hready : i0 ∈ Region.ready .any l.toArray (listed.setIfInBounds i true) := mem_ready.2 ⟨by rw [getD_set_ne true (by omega)]; exact hun0, oq, hoqa, fun e he hb => by
              have h8 := hback i0 oq hi0 hoqa e he hb
              rw [getD_set_ne false (by omega)]
              exact hqdep e he hb⟩
            refine ⟨fun hr => (by rw [hr] at hready; cases hready), fun j hj => ?_⟩
            obtain ⟨g1, oj, hoj, g2⟩ := mem_ready.1 hj
            have hjlt := (Array.getElem?_eq_some_iff.1 hoj).1
            have hjq : j = i0 := Classical.byContradiction fun hjn => by
              by_cases hji : j = i
              · subst hji
                rw [show (listed.setIfInBounds j true).getD j true = true by simp [Array.getD]] at g1
                cases g1
              · rw [getD_set_ne true (fun e => hji e.symm)] at g1
                by_cases hjl : j < i
                · have := hallq j hjl hjn
                  rw [getD_both g1] at this
                  cases this
                · have hk := hw2 j i0 (by omega) hjlt (by omega)
                  obtain ⟨oj', hoj', e, he, hb, hon⟩ := Region.waitsFor_spec hk
                  obtain rfl : oj = oj' := Option.some.inj (hoj.symm.trans hoj')
                  have := g2 e he hb
                  rw [hon, getD_set_ne false (by omega), getD_both hun0] at this
                  cases this
            subst hjq
            unfold wpOp
            simp only [hoqa]
            rw [if_pos (by simp [Region.wanted, hgq])]
            refine .inl (h5 a w' _ _ rfl ?_)
            rw [hdq]
            have e := all_listed (hH.set (mem_ready.2 ⟨hun0, oq, hoqa, hqdep⟩) hi0) hallS hnl
            have hsz3 : l.toArray.size - i = (l.toArray.size - i - 1) + 1 := by omega
            have hsq2 := hsq
            rw [hsz3] at hsq2
            simp only [Region.seqB, Bool.and_eq_true] at hsq2
            have hdl : (l.drop (i + 1)).length = l.toArray.size - i - 1 := by simp; omega
            have h10 := wpAny_of_seq (md := .any) (Q' := Q) (l.drop (i + 1)) (i + 1) ((listed.setIfInBounds i true).setIfInBounds j true) (a.put (some dq) v) w' (fun k => by simp [List.getElem?_drop]) (by
              rw [hdl, Array.setIfInBounds_comm _ _ (by omega), e, hsz3]
              exact hsq2.2) h7
            rwa [hdl] at h10
          have hil : i < listed.size := by rw [hH.size]; omega
          have h3 := TInv.step hB hli hL hF hI hH.size hH.closed hin ho (getD_both h1) h2 (wpAny P .any l.toArray Q (f + (l.toArray.size - n)) (listed.setIfInBounds i true)) Q (fun a' w' hI' => by
            refine ih _ a' w' (hH.set hi hin) ?_ hI'
            have := wanting_set hin hil (getD_both h1)
            omega)
          unfold wpOp
          simp only [ho]
          split
          · rename_i hw
            rw [if_pos hw] at h3
            exact .inl h3
          · rename_i hw
            rw [if_neg hw] at h3
            exact h3
    have inv0 : HeadInv .any l.toArray n (Array.replicate l.toArray.size false) :=
      ⟨by simp, fun j oj _ hl => (by rw [getD_replicate_false] at hl; cases hl), fun t _ ht => getD_in (by simpa using ht) (getD_replicate_false _ _)⟩
    have h0 : wanting n (Array.replicate l.toArray.size false) = n := by
      unfold wanting
      rw [List.filter_eq_self.2 (fun i _ => by rw [getD_replicate_false]; rfl), List.length_range]
    refine wp_region_any hm ?_
    have := key n _ a0 w0.drew inv0 h0 (TInv.start hF (Below.refl _ _).drew _)
    rw [show n + (l.toArray.size - n) = l.toArray.size by omega] at this
    exact this
  | false =>
    have key : ∀ (f k : Nat) (a : Act) (w : World), k + f = n → TInv N n (l.take n) Vs a0 w0 ((List.replicate k true ++ List.replicate (l.toArray.size - k) false).toArray) a w → wpList P l.toArray Q (l.drop k) a w := by
      intro f
      induction f with
      | zero =>
        intro k a w hk hI
        obtain rfl : k = n := by omega
        refine fin _ a w hI (fun i hi => ?_)
        simp [Array.getD, hi]
        omega
      | succ f ih =>
        intro k a w hk hI
        have hkn : k < n := by omega
        have hkl : k < l.length := by omega
        have hdrop : l.drop k = l[k] :: l.drop (k + 1) := by rw [List.drop_eq_getElem_cons hkl]
        have getD_k : ∀ m j, m ≤ l.toArray.size → (List.replicate m true ++ List.replicate (l.toArray.size - m) false).toArray.getD j false = decide (j < m) := fun m j hm => by
          by_cases hj : j < m
          · simp [Array.getD, hj]; omega
          · simp [Array.getD, List.getElem_append, hj]
        have ho : l.toArray[k]? = some l[k] := by simp [hkl]
        have hset : (List.replicate k true ++ List.replicate (l.toArray.size - k) false).toArray.setIfInBounds k true = (List.replicate (k + 1) true ++ List.replicate (l.toArray.size - (k + 1)) false).toArray := by
          apply Array.ext_getElem?
          intro j
          rw [show l.toArray.size - k = (l.toArray.size - (k + 1)) + 1 by omega, List.replicate_succ, List.replicate_succ']
          simp only [List.setIfInBounds_toArray, List.getElem?_toArray, List.append_assoc, List.singleton_append]
          rw [List.set_append_right _ _ (by simp)]
          simp
        rw [hdrop]
        refine wpList_step fun K hK => ?_
        refine TInv.step hB hli hL hF hI (by simp; omega) (fun j oj hj hl e he hb => ?_) hkn ho (by rw [getD_k k k (by omega)]; simp) (fun e he hb => ?_) K Q (fun a' w' hI' => hK a' w' (ih (k + 1) a' w' (by omega) (by rw [← hset]; exact hI')))
        · rw [getD_k k _ (by omega)] at hl ⊢
          simp only [decide_eq_true_eq] at hl ⊢
          have := hback j oj (by omega) hj e he hb
          omega
        · rw [getD_k k _ (by omega)]
          simp only [decide_eq_true_eq]
          exact hback k _ hkn ho e he hb
    refine wp_region_lit ?_
    have := key n 0 a0 w0 (by omega) (by
      have e : (List.replicate 0 true ++ List.replicate (l.toArray.size - 0) false).toArray = Array.replicate l.toArray.size false := by simp
      rw [e]
      exact TInv.start hF (Below.refl _ _) _)
    simpa using this
/-- The store's work. -/
theorem store_ev {N : Nat} {Γ : Ctx} {a : Act} {w : World} {o : Oper} {ty t : TypeId} {p y g : Nat} {cs : Array Value} {v : Value} {Δ : Ctx} (hF : Fr N Γ a w) (hd : o.dst = none) (ho : o.op = .store ty (.tmp p) (.tmp y)) (hp : look Γ p = some (Ty.ex (.pointer (some ⟨g, 0, none⟩)))) (hy : a.eval (.tmp y) = v)
    (hB : Blk w g t cs) (hcs : v.cells.size = cs.size) (hi : (P.info? ty).map (·.size) = some v.cells.size) (h1 : v.cells.all (·.oneCell') = true) (hΔ : Fr N Δ a w) (hfree : Δ.free t = true) :
    ∃ w', (∀ (a' : Act), a'.eval (.tmp p) = a.eval (.tmp p) → a'.eval (.tmp y) = a.eval (.tmp y) → ∀ (K : Act → World → Prop) (Q' : Exit → Act → World → Prop), K a' w' → o.wp P a' w K Q') ∧ Fr N Δ a w' ∧ Blk w' g t v.cells ∧ Keeps [g] w w' := by
  have h3 : Keeps [g] w (w.setCells g 0 v.cells.toList) := Keeps.setCells (.inl (by simp)) _ _ (Keeps.refl _ _)
  refine ⟨w.setCells g 0 v.cells.toList, fun a' e1 e2 K Q' hk => ?_, ?_, ?_, h3⟩
  · unfold Oper.wp execOp
    simp only [ho, e1, e2, hF.getEx hp, hy, Instr.storeAt, Instr.sureAddr, Sem.run_bind, Sem.run_pure, Result.andThen_ok, storeVar_cells ty _ v, run_storeVar_mid w g 0 ty v.cells (hB.there (by omega)) hi h1]
    show K (a'.put o.dst _) _
    rw [hd]
    exact hk
  · refine hΔ.free h3 (fun b hb _ => ?_) hfree
    simp only [List.mem_singleton] at hb
    subst hb
    exact ⟨cs, (0, 0), hB⟩
  · have h2 := hB.setCells v.cells.toList 0
    rw [splice_all _ _ (by simpa using hcs)] at h2
    simpa using h2
theorem store_st {N : Nat} {Γ : Ctx} {a : Act} {w : World} {o : Oper} {ty t : TypeId} {p y g : Nat} {cs : Array Value} {v : Value} {Δ : Ctx} {R : World → Prop} (hF : Fr N Γ a w) (hd : o.dst = none) (ho : o.op = .store ty (.tmp p) (.tmp y)) (hp : look Γ p = some (Ty.ex (.pointer (some ⟨g, 0, none⟩)))) (hy : a.eval (.tmp y) = v)
    (hB : Blk w g t cs) (hcs : v.cells.size = cs.size) (hi : (P.info? ty).map (·.size) = some v.cells.size) (h1 : v.cells.all (·.oneCell') = true) (hΔ : Fr N Δ a w) (hfree : Δ.free t = true) (hq : ∀ w', Fr N Δ a w' → Blk w' g t v.cells → Keeps [g] w w' → R w') :
    ∃ w', (∀ (a' : Act), a'.eval (.tmp p) = a.eval (.tmp p) → a'.eval (.tmp y) = a.eval (.tmp y) → ∀ (K : Act → World → Prop) (Q' : Exit → Act → World → Prop), K a' w' → o.wp P a' w K Q') ∧ R w' := by
  obtain ⟨w', h4, h5, h6, h7⟩ := store_ev (P := P) hF hd ho hp hy hB hcs hi h1 hΔ hfree
  exact ⟨w', h4, hq w' h5 h6 h7⟩
theorem put_far {d s : Nat} (h : Nat.beq d s = false) (a : Act) (v : Value) : (a.put (some d) v).eval (.tmp s) = a.eval (.tmp s) := by
  have hne : d ≠ s := fun e => by subst e; simp at h
  simp only [Act.eval, Act.put, Array.getD_eq_getD_getElem?]
  rw [Array.getElem?_setIfInBounds_ne hne]
end
end Go.Proofs.YtgmeagkolahkoaaDoor

/- Strata by types: Differ. -/
namespace Go.Proofs.YtgmeagkolahkoaaDoor
open Go.RowKit

set_option maxRecDepth 100000 in
theorem differ_bad (sa sb : Nat) (A B : List (List Cl)) (hA : A.length ≤ 1000000) (hBl : B.length ≤ 1000000) (h : (goodSt A && goodSt B && decide (sa = sb)) = false) : Fn2 Tryd.prog 11 (Ty.stra 38 27 sa A) (Ty.stra 38 27 sb B) (Ty.tup [Ty.ex (.int .i64 0), Ty.ex (.int .i64 1)]) := by
  refine ⟨fun args w => by kernel_rfl, fun w v u ⟨s, hv, hs⟩ ⟨s2, hu, hs2⟩ => ?_⟩
  subst hv hu
  have gA := sgood_ty sa A hA
  have gB := sgood_ty sb B hBl
  let TA := Ty.tabs 38 27 sa A
  let TB := Ty.tabs 38 27 sb B
  refine enter_ty 69 [Ty.ex (.agg #[.int .u64 (sa : Int), s]), Ty.ex (.agg #[.int .u64 (sb : Int), s2])] Tryd.func11 rfl (by kernel_rfl) ⟨rfl, rfl, trivial⟩ fun a hF => ?_
  have hB := Below.refl w.heap.size w
  repeat with_reducible first | refine wp_seq ?_ | refine nThen ?_ | refine wp_ret ?_ | refine rThen ?_
  refine' reg_all hF ?_ mixed (by kernel_rfl) ?_
  rotate_left
  · repeat (first
        | exact Line.nil
        | (refine' Line.cons rfl (.no rfl rfl rfl rfl rfl rfl) ?_; rotate_left)
        | ((first | refine' Line.cons rfl (.run rfl rfl ?_) ?_ | refine' Line.cons rfl (.yes rfl rfl rfl rfl ?_) ?_)
           any_goals (first | exact cMove rfl rfl | exact cAssign rfl rfl | exact cNot rfl rfl | exact cBoxTab rfl rfl | exact cPickT rfl rfl rfl | exact cPickF rfl rfl rfl | exact cNeq rfl rfl rfl)
           rotate_left))
  intro a w1 hF hb hN
  have hBs := hB.size
  replace hB := hB.trans (hb.mono hB.size)
  dsimp only [ext, Option.getD] at hF
  repeat with_reducible first | refine wp_seq ?_ | refine nThen ?_ | refine wp_ret ?_ | refine rThen ?_
  replace hF := hF.as hF (s := 2) (σ := Ty.straP StT 38 27 sa A) rfl (fun v hv => ⟨s, hv, TA.below hs hB⟩)
  replace hF := hF.as hF (s := 3) (σ := Ty.straP StT 38 27 sb B) rfl (fun v hv => ⟨s2, hv, TB.below hs2 hB⟩)
  refine wp_mono (Q := fun e a w' => e = .normal ∧ Fr 69 [(26, Ty.ex (.bool true))] a w' ∧ Below w.heap.size w w') ?_ ?_
  · cases g1 : goodSt A with
    | false =>
      rw [g1] at gA
      refine' reg_all hF ?_ mixed (by kernel_rfl) ?_
      rotate_left
      · repeat (first
            | exact Line.nil
            | (refine' Line.cons rfl (.no rfl rfl rfl rfl rfl rfl) ?_; rotate_left)
            | ((first | refine' Line.cons rfl (.run rfl rfl ?_) ?_ | refine' Line.cons rfl (.yes rfl rfl rfl rfl ?_) ?_)
               any_goals (first | exact cMove rfl rfl | exact cAssign rfl rfl | exact cNot rfl rfl | exact cLoadStA rfl (.t rfl) | exact cCall1 rfl rfl gA | exact cPickT rfl rfl rfl | exact cPickF rfl rfl rfl | exact cNeq rfl rfl rfl)
               rotate_left))
      intro a w2 hF hb hN
      have hBs := hB.size
      replace hB := hB.trans (hb.mono hB.size)
      dsimp only [ext, Option.getD] at hF
      repeat with_reducible first | refine wp_seq ?_ | refine nThen ?_ | refine wp_ret ?_ | refine rThen ?_
      exact ⟨rfl, hF.keep [26], hB⟩
    | true =>
    cases g2 : goodSt B with
    | false =>
      rw [g1] at gA
      rw [g2] at gB
      refine' reg_all hF ?_ mixed (by kernel_rfl) ?_
      rotate_left
      · repeat (first
            | exact Line.nil
            | (refine' Line.cons rfl (.no rfl rfl rfl rfl rfl rfl) ?_; rotate_left)
            | ((first | refine' Line.cons rfl (.run rfl rfl ?_) ?_ | refine' Line.cons rfl (.yes rfl rfl rfl rfl ?_) ?_)
               any_goals (first | exact cMove rfl rfl | exact cAssign rfl rfl | exact cNot rfl rfl | exact cLoadStA rfl (.t rfl) | exact cCall1 rfl rfl gA | exact cCall1 rfl rfl gB | exact cPickT rfl rfl rfl | exact cPickF rfl rfl rfl | exact cNeq rfl rfl rfl)
               rotate_left))
      intro a w2 hF hb hN
      have hBs := hB.size
      replace hB := hB.trans (hb.mono hB.size)
      dsimp only [ext, Option.getD] at hF
      repeat with_reducible first | refine wp_seq ?_ | refine nThen ?_ | refine wp_ret ?_ | refine rThen ?_
      exact ⟨rfl, hF.keep [26], hB⟩
    | true =>
      rw [g1] at gA
      rw [g2] at gB
      rw [g1, g2] at h
      have hne : ¬ sa = sb := of_decide_eq_false (by simpa using h)
      refine' reg_all hF ?_ mixed (by kernel_rfl) ?_
      rotate_left
      · repeat (first
            | exact Line.nil
            | (refine' Line.cons rfl (.no rfl rfl rfl rfl rfl rfl) ?_; rotate_left)
            | ((first | refine' Line.cons rfl (.run rfl rfl ?_) ?_ | refine' Line.cons rfl (.yes rfl rfl rfl rfl ?_) ?_)
               any_goals (first | exact cMove rfl rfl | exact cAssign rfl rfl | exact cNot rfl rfl | exact cLoadStA rfl (.t rfl) | exact cCall1 rfl rfl gA | exact cCall1 rfl rfl gB | exact cStraSA rfl (.t rfl) | exact cLoadU64 rfl (.t rfl) | exact OpOk.b (c := true) (cNeq rfl rfl rfl) (by simp; omega) | exact cPickT rfl rfl rfl | exact cPickF rfl rfl rfl | exact cNeq rfl rfl rfl)
               rotate_left))
      intro a w2 hF hb hN
      have hBs := hB.size
      replace hB := hB.trans (hb.mono hB.size)
      dsimp only [ext, Option.getD] at hF
      repeat with_reducible first | refine wp_seq ?_ | refine nThen ?_ | refine wp_ret ?_ | refine rThen ?_
      exact ⟨rfl, hF.keep [26], hB⟩
  clear hF hB
  rintro e a w2 ⟨rfl, hF, hB⟩
  repeat with_reducible first | refine wp_seq ?_ | refine nThen ?_ | refine wp_ret ?_ | refine rThen ?_
  refine cond_t hF rfl ?_
  repeat with_reducible first | refine wp_seq ?_ | refine nThen ?_ | refine wp_ret ?_ | refine rThen ?_
  refine' reg_all hF ?_ mixed (by kernel_rfl) ?_
  rotate_left
  · repeat (first
        | exact Line.nil
        | (refine' Line.cons rfl (.no rfl rfl rfl rfl rfl rfl) ?_; rotate_left)
        | ((first | refine' Line.cons rfl (.run rfl rfl ?_) ?_ | refine' Line.cons rfl (.yes rfl rfl rfl rfl ?_) ?_)
           any_goals (first | exact cMove rfl rfl | exact cAssign rfl rfl | exact cNot rfl rfl | exact cPickT rfl rfl rfl | exact cPickF rfl rfl rfl | exact cNeq rfl rfl rfl)
           rotate_left))
  intro a w3 hF hb hN
  have hBs := hB.size
  replace hB := hB.trans (hb.mono hB.size)
  dsimp only [ext, Option.getD] at hF
  repeat with_reducible first | refine wp_seq ?_ | refine nThen ?_ | refine wp_ret ?_ | refine rThen ?_
  refine ret2 hF rfl rfl rfl fun a b ha hb => ?_
  exact ⟨_, rfl, ⟨[a, b], rfl, ha, hb, trivial⟩, hB⟩
set_option maxRecDepth 100000 in
set_option maxHeartbeats 4000000 in
theorem differ_ty (sd : Nat) (A B : List (List Cl)) (hsd : sd < 18446744073709551616) (g1 : goodSt A = true) (g2 : goodSt B = true) : Fn2 Tryd.prog 11 (Ty.stra 38 27 sd A) (Ty.stra 38 27 sd B) (Ty.tup [Ty.ex (.int .i64 (difGo sd A B 10 0 : Nat)), Ty.ex (.int .i64 0)]) := by
  refine ⟨fun args w => by kernel_rfl, fun w v u ⟨s, hv, hs⟩ ⟨s2, hu, hs2⟩ => ?_⟩
  subst hv hu
  obtain ⟨lA, hA⟩ := goodSt_get g1
  obtain ⟨lB, hBn⟩ := goodSt_get g2
  have gA := sgood_ty sd A (by omega)
  have gB := sgood_ty sd B (by omega)
  rw [g1] at gA
  rw [g2] at gB
  let TA := Ty.tabs 38 27 sd A
  let TB := Ty.tabs 38 27 sd B
  let PA := Ty.straP StT 38 27 sd A
  let PB := Ty.straP StT 38 27 sd B
  refine enter_ty 69 [Ty.ex (.agg #[.int .u64 (sd : Int), s]), Ty.ex (.agg #[.int .u64 (sd : Int), s2])] Tryd.func11 rfl (by kernel_rfl) ⟨rfl, rfl, trivial⟩ fun a hF => ?_
  have hB := Below.refl w.heap.size w
  repeat with_reducible first | refine wp_seq ?_ | refine nThen ?_ | refine nBlk ?_ | refine wp_skip ?_ | refine wp_block ?_ | refine wp_exit ?_ | refine xThen ?_ | refine xHere ?_ | refine wp_ret ?_ | refine rThen ?_ | refine rBlk ?_
  refine' reg_all hF ?_ mixed (by kernel_rfl) ?_
  rotate_left
  · repeat (first
        | exact Line.nil
        | ((first | refine' Line.cons rfl (.run rfl rfl ?_) ?_ | refine' Line.cons rfl (.yes rfl rfl rfl rfl ?_) ?_)
           any_goals (first | exact cMove rfl rfl | exact cAssign rfl rfl | exact cNot rfl rfl | exact cBoxTab rfl rfl | exact cPickF rfl rfl rfl | exact cGeq rfl rfl rfl | exact cEql rfl rfl rfl | exact cNeq rfl rfl rfl | exact cExtract rfl rfl rfl)
           rotate_left))
  intro a w1 hF hb hN
  have hBs := hB.size
  replace hB := hB.trans (hb.mono hB.size)
  dsimp only [ext, Option.getD] at hF
  repeat with_reducible first | refine wp_seq ?_ | refine nThen ?_ | refine nBlk ?_ | refine wp_skip ?_ | refine wp_block ?_ | refine wp_exit ?_ | refine xThen ?_ | refine xHere ?_ | refine wp_ret ?_ | refine rThen ?_ | refine rBlk ?_
  obtain ⟨p2, hp2, hF⟩ := hF.open (s := 2) rfl
  obtain ⟨p3, hp3, hF⟩ := hF.open (s := 3) rfl
  have hp2 : PA.p w1 p2 := ⟨s, hp2, TA.below hs hB⟩
  have hp3 : PB.p w1 p3 := ⟨s2, hp3, TB.below hs2 hB⟩
  have hB1 := hB
  replace hB := Below.refl w1.heap.size w1
  refine' reg_all hF ?_ mixed (by kernel_rfl) ?_
  rotate_left
  · repeat (first
        | exact Line.nil
        | ((first | refine' Line.cons rfl (.run rfl rfl ?_) ?_ | refine' Line.cons rfl (.yes rfl rfl rfl rfl ?_) ?_)
           any_goals (first | exact cMove rfl rfl | exact cAssign rfl rfl | exact cNot rfl rfl | exact cLoadStA rfl (.l rfl hp2) | exact cLoadStA rfl (.l rfl hp3) | exact cCall1 rfl rfl gA | exact cCall1 rfl rfl gB | exact cStraSA rfl (.l rfl hp2) | exact cStraSA rfl (.l rfl hp3) | exact cLoadU64 rfl (.t rfl) | exact OpOk.b (c := false) (cNeq rfl rfl rfl) (by simp) | exact cPickF rfl rfl rfl | exact cGeq rfl rfl rfl | exact cEql rfl rfl rfl | exact cNeq rfl rfl rfl | exact cExtract rfl rfl rfl)
           rotate_left))
  intro a w2 hF hb hN
  have hBs := hB.size
  replace hB := hB.trans (hb.mono hB.size)
  dsimp only [ext, Option.getD] at hF
  repeat with_reducible first | refine wp_seq ?_ | refine nThen ?_ | refine nBlk ?_ | refine wp_skip ?_ | refine wp_block ?_ | refine wp_exit ?_ | refine xThen ?_ | refine xHere ?_ | refine wp_ret ?_ | refine rThen ?_ | refine rBlk ?_
  refine cond_f hF rfl ?_
  repeat with_reducible first | refine wp_seq ?_ | refine nThen ?_ | refine nBlk ?_ | refine wp_skip ?_ | refine wp_block ?_ | refine wp_exit ?_ | refine xThen ?_ | refine xHere ?_ | refine wp_ret ?_ | refine rThen ?_ | refine rBlk ?_
  refine' reg_all hF ?_ mixed (by kernel_rfl) ?_
  rotate_left
  · repeat (first
        | exact Line.nil
        | ((first | refine' Line.cons rfl (.run rfl rfl ?_) ?_ | refine' Line.cons rfl (.yes rfl rfl rfl rfl ?_) ?_)
           any_goals (first | exact cMove rfl rfl | exact cAssign rfl rfl | exact cNot rfl rfl | exact cPickF rfl rfl rfl | exact cGeq rfl rfl rfl | exact cEql rfl rfl rfl | exact cNeq rfl rfl rfl | exact cExtract rfl rfl rfl)
           rotate_left))
  intro a w3 hF hb hN
  have hBs := hB.size
  replace hB := hB.trans (hb.mono hB.size)
  dsimp only [ext, Option.getD] at hF
  repeat with_reducible first | refine wp_seq ?_ | refine nThen ?_ | refine nBlk ?_ | refine wp_skip ?_ | refine wp_block ?_ | refine wp_exit ?_ | refine xThen ?_ | refine xHere ?_ | refine wp_ret ?_ | refine rThen ?_ | refine rBlk ?_
  refine' reg_all hF ?_ mixed (by kernel_rfl) ?_
  rotate_left
  · repeat (first
        | exact Line.nil
        | ((first | refine' Line.cons rfl (.run rfl rfl ?_) ?_ | refine' Line.cons rfl (.yes rfl rfl rfl rfl ?_) ?_)
           any_goals (first | exact cMove rfl rfl | exact cAssign rfl rfl | exact cNot rfl rfl | exact cPickF rfl rfl rfl | exact cGeq rfl rfl rfl | exact cEql rfl rfl rfl | exact cNeq rfl rfl rfl | exact cExtract rfl rfl rfl)
           rotate_left))
  intro a w4 hF hb hN
  have hBs := hB.size
  replace hB := hB.trans (hb.mono hB.size)
  dsimp only [ext, Option.getD] at hF
  repeat with_reducible first | refine wp_seq ?_ | refine nThen ?_ | refine nBlk ?_ | refine wp_skip ?_ | refine wp_block ?_ | refine wp_exit ?_ | refine xThen ?_ | refine xHere ?_ | refine wp_ret ?_ | refine rThen ?_ | refine rBlk ?_
  refine loop_ty (fun k a wr => ∃ n : Nat, k ≤ 10 ∧ n + 2050 * k ≤ 20500 ∧ difGo sd A B k n = difGo sd A B 10 0 ∧ Fr 69 [(2, Ty.ex p2), (3, Ty.ex p3), (6, Ty.ex (.int .i64 (n : Int))), (7, Ty.ex (.int .i64 ((k : Int) - 1)))] a wr ∧ Below w1.heap.size w1 wr) 10 ?_ ?_
  · exact ⟨0, by omega, by omega, rfl, hF.keep [2, 3, 6, 7], hB⟩
  clear hF hB
  rintro k a wr ⟨n, hk, hn, hgo, hF, hB⟩
  repeat with_reducible first | refine wp_seq ?_ | refine nThen ?_ | refine nBlk ?_ | refine wp_skip ?_ | refine wp_block ?_ | refine wp_exit ?_ | refine xThen ?_ | refine xHere ?_ | refine wp_ret ?_ | refine rThen ?_ | refine rBlk ?_
  refine' reg_all hF ?_ mixed (by kernel_rfl) ?_
  rotate_left
  · repeat (first
        | exact Line.nil
        | ((first | refine' Line.cons rfl (.run rfl rfl ?_) ?_ | refine' Line.cons rfl (.yes rfl rfl rfl rfl ?_) ?_)
           any_goals (first | exact cMove rfl rfl | exact cAssign rfl rfl | exact cNot rfl rfl | exact cPickF rfl rfl rfl | exact cGeq rfl rfl rfl | exact cEql rfl rfl rfl | exact cNeq rfl rfl rfl | exact cExtract rfl rfl rfl)
           rotate_left))
  intro a w5 hF hb hN
  have hBs := hB.size
  replace hB := hB.trans (hb.mono hB.size)
  dsimp only [ext, Option.getD] at hF
  repeat with_reducible first | refine wp_seq ?_ | refine nThen ?_ | refine nBlk ?_ | refine wp_skip ?_ | refine wp_block ?_ | refine wp_exit ?_ | refine xThen ?_ | refine xHere ?_ | refine wp_ret ?_ | refine rThen ?_ | refine rBlk ?_
  rcases k with _ | i
  · refine cond_ty hF rfl (fun h => absurd (of_decide_eq_true h) (by omega)) fun _ => ?_
    rw [← hgo]
    repeat with_reducible first | refine wp_seq ?_ | refine nThen ?_ | refine nBlk ?_ | refine wp_skip ?_ | refine wp_block ?_ | refine wp_exit ?_ | refine xThen ?_ | refine xHere ?_ | refine wp_ret ?_ | refine rThen ?_ | refine rBlk ?_
    refine' reg_all hF ?_ mixed (by kernel_rfl) ?_
    rotate_left
    · repeat (first
          | exact Line.nil
          | ((first | refine' Line.cons rfl (.run rfl rfl ?_) ?_ | refine' Line.cons rfl (.yes rfl rfl rfl rfl ?_) ?_)
             any_goals (first | exact cMove rfl rfl | exact cAssign rfl rfl | exact cNot rfl rfl | exact cPickF rfl rfl rfl | exact cGeq rfl rfl rfl | exact cEql rfl rfl rfl | exact cNeq rfl rfl rfl | exact cExtract rfl rfl rfl)
             rotate_left))
    intro a w6 hF hb hN
    have hBs := hB.size
    replace hB := hB.trans (hb.mono hB.size)
    dsimp only [ext, Option.getD] at hF
    repeat with_reducible first | refine wp_seq ?_ | refine nThen ?_ | refine nBlk ?_ | refine wp_skip ?_ | refine wp_block ?_ | refine wp_exit ?_ | refine xThen ?_ | refine xHere ?_ | refine wp_ret ?_ | refine rThen ?_ | refine rBlk ?_
    refine ret2 hF rfl rfl rfl fun a b ha hb => ?_
    exact ⟨_, rfl, ⟨[a, b], rfl, ha, hb, trivial⟩, hB1.trans (hB.mono hB1.size)⟩
  refine cond_ty hF rfl (fun _ => ?_) fun h => absurd (of_decide_eq_false h) (by omega)
  rw [show ((i + 1 : Nat) : Int) - 1 = (i : Int) by omega] at hF
  repeat with_reducible first | refine wp_seq ?_ | refine nThen ?_ | refine nBlk ?_ | refine wp_skip ?_ | refine wp_block ?_ | refine wp_exit ?_ | refine xThen ?_ | refine xHere ?_ | refine wp_ret ?_ | refine rThen ?_ | refine rBlk ?_
  have hq2 := PA.below hp2 hB
  have hq3 := PB.below hp3 hB
  have m1 := tminus_ty sd sd (A.getD i []) (B.getD i [])
  have hg : goodN ((A.getD i []).length : Int) = true := by rw [hA i (by omega)]; exact g24
  have k1 := minOk_good (s := sd) hg ((hA i (by omega)).trans (hBn i (by omega)).symm)
  rw [minL_good k1, minS_good k1, minE_good k1] at m1
  have eD : tminus (A.getD i []) (B.getD i []) = difD A B i := rfl
  rw [eD] at m1
  have hAll := pall_ty sd (difD A B i) hsd
  have hgo' : difGo sd A B (i + 1) n = if resN sd (difD A B i) = 0 then difGo sd A B i (n + difC sd A B i) else min ((if n = 0 then 24 else n) * 2 ^ (i + 1)) 1024 := rfl
  have hC : difC sd A B i = (resP sd (difD A B i)).length + (resM sd (difD A B i)).length := rfl
  rw [hC] at hgo'
  rw [hgo'] at hgo
  clear eD k1 hg hgo' hC
  have hPl := resP_len (seed := sd) (L := difD A B i)
  have hQl := resM_len (seed := sd) (L := difD A B i)
  generalize difD A B i = D at *
  generalize resN sd D = en at *
  generalize resP sd D = P at *
  generalize resM sd D = M at *
  generalize resS sd D = rs at *
  generalize resL sd D = RL at *
  have hiA : i < A.length := by omega
  have hiB : i < B.length := by omega
  refine' region_st 15 13 (dq := 44) (sp := .tmp 8) (sy := .tmp 43) mixed (by kernel_rfl) (by kernel_rfl) hF rfl rfl rfl rfl rfl rfl (fun a v => ⟨put_far rfl a v, put_far rfl a v⟩) ?_ ?_
  rotate_left
  · simp only [List.take_succ_cons, List.take_zero]
    repeat (first
        | exact Line.nil
        | (refine' Line.cons rfl (.new rfl rfl (run_alloc_i infoT46) rfl) ?_; rotate_left)
        | ((first | refine' Line.cons rfl (.run rfl rfl ?_) ?_ | refine' Line.cons rfl (.yes rfl rfl rfl rfl ?_) ?_)
           any_goals (first | exact cMove rfl rfl | exact cAssign rfl rfl | exact cNot rfl rfl | exact cStraLA rfl (.l rfl hq2) | exact cStraLA rfl (.l rfl hq3) | exact cLoadTsA rfl (.t rfl) | exact cIdxTA (k := i) rfl (.t rfl) rfl hiA | exact cIdxTA (k := i) rfl (.t rfl) rfl hiB | exact cLoadTab46 rfl (.t rfl) | exact cCallR2 rfl (.t rfl) (.t rfl) m1 (tabE_olds _ _ _ _) | exact cExtT rfl rfl | exact cExtE rfl rfl | exact cPickF rfl rfl rfl | exact cGeq rfl rfl rfl | exact cEql rfl rfl rfl | exact cNeq rfl rfl rfl | exact cExtract rfl rfl rfl)
           rotate_left))
  intro a w7 hF hb hN
  have hBs := hB.size
  replace hB := hB.trans (hb.mono hB.size)
  simp only [List.take_succ_cons, List.take_zero, List.drop_succ_cons, List.drop_zero] at hF hN ⊢
  dsimp only [ext, Option.getD] at hF
  obtain ⟨z, ⟨g8, rfl, hg8, hb8⟩, hF⟩ := hF.open (s := 8) rfl
  obtain ⟨z, ⟨s43, rfl, S43, hs43, hS43⟩, hF⟩ := hF.open (s := 43) rfl
  have hg8w : w1.heap.size ≤ g8 := Nat.le_trans (hBs) hg8
  refine store_st (Δ := [(2, Ty.ex p2), (3, Ty.ex p3), (6, Ty.ex (.int .i64 (n : Int))), (7, Ty.ex (.int .i64 (i : Int))), (8, Ty.ex (.pointer (some ⟨g8, 0, none⟩))), (44, Ty.ex (.int .i64 0))]) hF rfl rfl rfl (hF.getEx (s := 43) rfl) hb8 rfl sizeT46 (sl_one hs43.sl _) (hF.keep [2, 3, 6, 7, 8, 44]) rfl ?_
  intro w8 hF hb8' hkx
  replace hs43 := hs43.keeps hkx (seg_far hs43 hb8 (by decide))
  replace hB := below_own hB hkx (by intro y hy; simp only [List.mem_singleton] at hy; omega)
  replace hb8 : Blk w8 g8 38 #[.int .u64 (sd : Int), s43] := hb8'
  replace hF := hF.as hF (s := 8) (σ := Ty.tabP 38 27 sd D) rfl (fun v hv => by
    have hv : v = .pointer (some ⟨g8, 0, none⟩) := hv
    subst hv
    exact ⟨s43, ⟨g8, 0, _, (0, 0), rfl, hb8, fun j u h => by simpa using h⟩, hs43.sl⟩)
  clear hb8' hkx hb8 hs43 hS43
  refine' tlOp hF rfl rfl rfl ?_ ?_
  rotate_left
  · first | exact cMove rfl rfl | exact cAssign rfl rfl | exact cPickF rfl rfl rfl | exact cNot rfl rfl | exact cGeq rfl rfl rfl | exact cEql rfl rfl rfl | exact cNeq rfl rfl rfl | exact cExtract rfl rfl rfl
  intro a w9 hF hb
  have hBs := hB.size
  replace hB := hB.trans (hb.mono hB.size)
  try (refine wpList_nil ?_)
  repeat with_reducible first | refine wp_seq ?_ | refine nThen ?_ | refine nBlk ?_ | refine wp_skip ?_ | refine wp_block ?_ | refine wp_exit ?_ | refine xThen ?_ | refine xHere ?_ | refine wp_ret ?_ | refine rThen ?_ | refine rBlk ?_
  refine wp_region_lit ?_
  refine' tlOp hF rfl rfl rfl ?_ ?_
  rotate_left
  · first | exact cMove rfl rfl | exact cLoadTab46 rfl (.t rfl) | exact cCall1 rfl rfl hAll
  intro a w10_0 hF hb
  replace hB := hB.trans (hb.mono hB.size)
  refine' tlOp hF rfl rfl rfl ?_ ?_
  rotate_left
  · first | exact cMove rfl rfl | exact cLoadTab46 rfl (.t rfl) | exact cCall1 rfl rfl hAll
  intro a w10_1 hF hb
  replace hB := hB.trans (hb.mono hB.size)
  refine' tlOp hF rfl rfl rfl ?_ ?_
  rotate_left
  · first | exact cMove rfl rfl | exact cLoadTab46 rfl (.t rfl) | exact cCall1 rfl rfl hAll
  intro a w10_2 hF hb
  replace hB := hB.trans (hb.mono hB.size)
  refine' tlOp hF rfl rfl rfl ?_ ?_
  rotate_left
  · exact cExtract rfl rfl rfl
  intro a w10_t hF hb
  replace hB := hB.trans (hb.mono hB.size)
  refine' tlOp hF rfl rfl rfl ?_ ?_
  rotate_left
  · exact cExtract rfl rfl rfl
  intro a w10_e hF hb
  replace hB := hB.trans (hb.mono hB.size)
  refine tlNewRes hF rfl rfl rfl (by decide) rfl rfl rfl rfl rfl fun a w10_n hF hb => ?_
  replace hB := hB.trans (hb.mono hB.size)
  refine' tlOp hF rfl rfl rfl ?_ ?_
  rotate_left
  · exact cAssign rfl rfl
  intro a w10 hF hb
  replace hB := hB.trans (hb.mono hB.size)
  try (refine wpList_nil ?_)
  repeat with_reducible first | refine wp_seq ?_ | refine nThen ?_ | refine nBlk ?_ | refine wp_skip ?_ | refine wp_block ?_ | refine wp_exit ?_ | refine xThen ?_ | refine xHere ?_ | refine wp_ret ?_ | refine rThen ?_ | refine rBlk ?_
  by_cases h0 : en = 0
  rotate_left
  · rw [if_neg h0] at hgo
    rw [← hgo]
    refine' reg_all hF ?_ mixed (by kernel_rfl) ?_
    rotate_left
    · repeat (first
          | exact Line.nil
          | ((first | refine' Line.cons rfl (.run rfl rfl ?_) ?_ | refine' Line.cons rfl (.yes rfl rfl rfl rfl ?_) ?_)
             any_goals (first | exact cMove rfl rfl | exact cAssign rfl rfl | exact cNot rfl rfl | exact OpOk.b (c := true) (cNeq rfl rfl rfl) (by rw [decide_eq_false h0]; rfl) | exact cPickF rfl rfl rfl | exact cGeq rfl rfl rfl | exact cEql rfl rfl rfl | exact cNeq rfl rfl rfl | exact cExtract rfl rfl rfl)
             rotate_left))
    intro a w11 hF hb hN
    have hBs := hB.size
    replace hB := hB.trans (hb.mono hB.size)
    dsimp only [ext, Option.getD] at hF
    repeat with_reducible first | refine wp_seq ?_ | refine nThen ?_ | refine nBlk ?_ | refine wp_skip ?_ | refine wp_block ?_ | refine wp_exit ?_ | refine xThen ?_ | refine xHere ?_ | refine wp_ret ?_ | refine rThen ?_ | refine rBlk ?_
    refine cond_t hF rfl ?_
    repeat with_reducible first | refine wp_seq ?_ | refine nThen ?_ | refine nBlk ?_ | refine wp_skip ?_ | refine wp_block ?_ | refine wp_exit ?_ | refine xThen ?_ | refine xHere ?_ | refine wp_ret ?_ | refine rThen ?_ | refine rBlk ?_
    have hpw : 2 ^ (i + 1) ≤ 2 ^ 10 := Nat.pow_le_pow_right (by decide) hk
    have hsh : (0 : Int) ≤ ((i : Int) + 1) ∧ ((i : Int) + 1).toNat ≤ IntKind.i64.bits := ⟨by omega, by show _ ≤ 64; omega⟩
    have hto : ((i : Int) + 1).toNat = i + 1 := by omega
    have hcast : ((2 : Int) ^ (i + 1)) = ((2 ^ (i + 1) : Nat) : Int) := by simp
    have hpw1 : 2 ^ (i + 1) ≤ 1024 := hpw
    have hsh2 : ∀ c : Nat, c ≤ 20500 → IntKind.i64.wrap ((c : Int) * 2 ^ ((i : Int) + 1).toNat) = ((c * 2 ^ (i + 1) : Nat) : Int) := fun c hc => by
      have hm : c * 2 ^ (i + 1) ≤ 20500 * 1024 := Nat.mul_le_mul hc hpw1
      rw [hto, hcast, ← Int.natCast_mul]
      exact IntWalk.i64_in _ (by omega)
    by_cases hn0 : n = 0
    · rw [if_pos hn0]
      refine' reg_all hF ?_ mixed (by kernel_rfl) ?_
      rotate_left
      · repeat (first
            | exact Line.nil
            | ((first | refine' Line.cons rfl (.run rfl rfl ?_) ?_ | refine' Line.cons rfl (.yes rfl rfl rfl rfl ?_) ?_)
               any_goals (first | exact cMove rfl rfl | exact cAssign rfl rfl | exact cNot rfl rfl | exact OpOk.b (c := true) (cEql rfl rfl rfl) (decide_eq_true (by omega)) | exact cPickF rfl rfl rfl | exact cGeq rfl rfl rfl | exact cEql rfl rfl rfl | exact cNeq rfl rfl rfl | exact cExtract rfl rfl rfl)
               rotate_left))
      intro a w12 hF hb hN
      have hBs := hB.size
      replace hB := hB.trans (hb.mono hB.size)
      dsimp only [ext, Option.getD] at hF
      repeat with_reducible first | refine wp_seq ?_ | refine nThen ?_ | refine nBlk ?_ | refine wp_skip ?_ | refine wp_block ?_ | refine wp_exit ?_ | refine xThen ?_ | refine xHere ?_ | refine wp_ret ?_ | refine rThen ?_ | refine rBlk ?_
      refine cond_t hF rfl ?_
      repeat with_reducible first | refine wp_seq ?_ | refine nThen ?_ | refine nBlk ?_ | refine wp_skip ?_ | refine wp_block ?_ | refine wp_exit ?_ | refine xThen ?_ | refine xHere ?_ | refine wp_ret ?_ | refine rThen ?_ | refine rBlk ?_
      refine' reg_all hF ?_ mixed (by kernel_rfl) ?_
      rotate_left
      · repeat (first
            | exact Line.nil
            | ((first | refine' Line.cons rfl (.run rfl rfl ?_) ?_ | refine' Line.cons rfl (.yes rfl rfl rfl rfl ?_) ?_)
               any_goals (first | exact cMove rfl rfl | exact cAssign rfl rfl | exact cNot rfl rfl | exact cPickF rfl rfl rfl | exact cGeq rfl rfl rfl | exact cEql rfl rfl rfl | exact cNeq rfl rfl rfl | exact cExtract rfl rfl rfl)
               rotate_left))
      intro a w13 hF hb hN
      have hBs := hB.size
      replace hB := hB.trans (hb.mono hB.size)
      dsimp only [ext, Option.getD] at hF
      repeat with_reducible first | refine wp_seq ?_ | refine nThen ?_ | refine nBlk ?_ | refine wp_skip ?_ | refine wp_block ?_ | refine wp_exit ?_ | refine xThen ?_ | refine xHere ?_ | refine wp_ret ?_ | refine rThen ?_ | refine rBlk ?_
      refine' reg_all hF ?_ mixed (by kernel_rfl) ?_
      rotate_left
      · repeat (first
            | exact Line.nil
            | ((first | refine' Line.cons rfl (.run rfl rfl ?_) ?_ | refine' Line.cons rfl (.yes rfl rfl rfl rfl ?_) ?_)
               any_goals (first | exact cMove rfl rfl | exact cAssign rfl rfl | exact cNot rfl rfl | exact cAdd (r := (i : Int) + 1) rfl rfl rfl (by omega) | exact cShl (r := ((24 * 2 ^ (i + 1) : Nat) : Int)) rfl rfl rfl hsh (hsh2 24 (by omega)) | exact cMinI rfl rfl | exact cPickF rfl rfl rfl | exact cGeq rfl rfl rfl | exact cEql rfl rfl rfl | exact cNeq rfl rfl rfl | exact cExtract rfl rfl rfl)
               rotate_left))
      intro a w14 hF hb hN
      have hBs := hB.size
      replace hB := hB.trans (hb.mono hB.size)
      dsimp only [ext, Option.getD] at hF
      repeat with_reducible first | refine wp_seq ?_ | refine nThen ?_ | refine nBlk ?_ | refine wp_skip ?_ | refine wp_block ?_ | refine wp_exit ?_ | refine xThen ?_ | refine xHere ?_ | refine wp_ret ?_ | refine rThen ?_ | refine rBlk ?_
      refine ret2 hF rfl rfl rfl fun a b ha hb => ?_
      exact ⟨_, rfl, ⟨[a, b], rfl, by rw [ha]; show _ = _; congr 1; omega, hb, trivial⟩, hB1.trans (hB.mono hB1.size)⟩
    · rw [if_neg hn0]
      refine' reg_all hF ?_ mixed (by kernel_rfl) ?_
      rotate_left
      · repeat (first
            | exact Line.nil
            | ((first | refine' Line.cons rfl (.run rfl rfl ?_) ?_ | refine' Line.cons rfl (.yes rfl rfl rfl rfl ?_) ?_)
               any_goals (first | exact cMove rfl rfl | exact cAssign rfl rfl | exact cNot rfl rfl | exact OpOk.b (c := false) (cEql rfl rfl rfl) (decide_eq_false (by omega)) | exact cPickF rfl rfl rfl | exact cGeq rfl rfl rfl | exact cEql rfl rfl rfl | exact cNeq rfl rfl rfl | exact cExtract rfl rfl rfl)
               rotate_left))
      intro a w12 hF hb hN
      have hBs := hB.size
      replace hB := hB.trans (hb.mono hB.size)
      dsimp only [ext, Option.getD] at hF
      repeat with_reducible first | refine wp_seq ?_ | refine nThen ?_ | refine nBlk ?_ | refine wp_skip ?_ | refine wp_block ?_ | refine wp_exit ?_ | refine xThen ?_ | refine xHere ?_ | refine wp_ret ?_ | refine rThen ?_ | refine rBlk ?_
      refine cond_f hF rfl ?_
      repeat with_reducible first | refine wp_seq ?_ | refine nThen ?_ | refine nBlk ?_ | refine wp_skip ?_ | refine wp_block ?_ | refine wp_exit ?_ | refine xThen ?_ | refine xHere ?_ | refine wp_ret ?_ | refine rThen ?_ | refine rBlk ?_
      refine' reg_all hF ?_ mixed (by kernel_rfl) ?_
      rotate_left
      · repeat (first
            | exact Line.nil
            | ((first | refine' Line.cons rfl (.run rfl rfl ?_) ?_ | refine' Line.cons rfl (.yes rfl rfl rfl rfl ?_) ?_)
               any_goals (first | exact cMove rfl rfl | exact cAssign rfl rfl | exact cNot rfl rfl | exact cAdd (r := (i : Int) + 1) rfl rfl rfl (by omega) | exact cShl (r := ((n * 2 ^ (i + 1) : Nat) : Int)) rfl rfl rfl hsh (hsh2 n (by omega)) | exact cMinI rfl rfl | exact cPickF rfl rfl rfl | exact cGeq rfl rfl rfl | exact cEql rfl rfl rfl | exact cNeq rfl rfl rfl | exact cExtract rfl rfl rfl)
               rotate_left))
      intro a w14 hF hb hN
      have hBs := hB.size
      replace hB := hB.trans (hb.mono hB.size)
      dsimp only [ext, Option.getD] at hF
      repeat with_reducible first | refine wp_seq ?_ | refine nThen ?_ | refine nBlk ?_ | refine wp_skip ?_ | refine wp_block ?_ | refine wp_exit ?_ | refine xThen ?_ | refine xHere ?_ | refine wp_ret ?_ | refine rThen ?_ | refine rBlk ?_
      refine ret2 hF rfl rfl rfl fun a b ha hb => ?_
      exact ⟨_, rfl, ⟨[a, b], rfl, by rw [ha]; show _ = _; congr 1; omega, hb, trivial⟩, hB1.trans (hB.mono hB1.size)⟩
  rw [if_pos h0] at hgo
  refine' reg_all hF ?_ mixed (by kernel_rfl) ?_
  rotate_left
  · repeat (first
        | exact Line.nil
        | ((first | refine' Line.cons rfl (.run rfl rfl ?_) ?_ | refine' Line.cons rfl (.yes rfl rfl rfl rfl ?_) ?_)
           any_goals (first | exact cMove rfl rfl | exact cAssign rfl rfl | exact cNot rfl rfl | exact OpOk.b (c := false) (cNeq rfl rfl rfl) (by rw [decide_eq_true h0]; rfl) | exact cPickF rfl rfl rfl | exact cGeq rfl rfl rfl | exact cEql rfl rfl rfl | exact cNeq rfl rfl rfl | exact cExtract rfl rfl rfl)
           rotate_left))
  intro a w11 hF hb hN
  have hBs := hB.size
  replace hB := hB.trans (hb.mono hB.size)
  dsimp only [ext, Option.getD] at hF
  repeat with_reducible first | refine wp_seq ?_ | refine nThen ?_ | refine nBlk ?_ | refine wp_skip ?_ | refine wp_block ?_ | refine wp_exit ?_ | refine xThen ?_ | refine xHere ?_ | refine wp_ret ?_ | refine rThen ?_ | refine rBlk ?_
  refine cond_f hF rfl ?_
  repeat with_reducible first | refine wp_seq ?_ | refine nThen ?_ | refine nBlk ?_ | refine wp_skip ?_ | refine wp_block ?_ | refine wp_exit ?_ | refine xThen ?_ | refine xHere ?_ | refine wp_ret ?_ | refine rThen ?_ | refine rBlk ?_
  refine' reg_all hF ?_ mixed (by kernel_rfl) ?_
  rotate_left
  · repeat (first
        | exact Line.nil
        | ((first | refine' Line.cons rfl (.run rfl rfl ?_) ?_ | refine' Line.cons rfl (.yes rfl rfl rfl rfl ?_) ?_)
           any_goals (first | exact cMove rfl rfl | exact cAssign rfl rfl | exact cNot rfl rfl | exact cSelP rfl (.t rfl) | exact cSelM rfl (.t rfl) | exact cLoadSel rfl rfl | exact cLenH rfl (.t rfl) (Ty.sl_isSl _ _ _) Tryd.underlying34 | exact cAdd (r := ((P.length + M.length : Nat) : Int)) rfl rfl rfl (by omega) | exact cAdd (r := ((n + (P.length + M.length) : Nat) : Int)) rfl rfl rfl (by omega) | exact cPickF rfl rfl rfl | exact cGeq rfl rfl rfl | exact cEql rfl rfl rfl | exact cNeq rfl rfl rfl | exact cExtract rfl rfl rfl)
           rotate_left))
  intro a w12 hF hb hN
  have hBs := hB.size
  replace hB := hB.trans (hb.mono hB.size)
  dsimp only [ext, Option.getD] at hF
  repeat with_reducible first | refine wp_seq ?_ | refine nThen ?_ | refine nBlk ?_ | refine wp_skip ?_ | refine wp_block ?_ | refine wp_exit ?_ | refine xThen ?_ | refine xHere ?_ | refine wp_ret ?_ | refine rThen ?_ | refine rBlk ?_
  refine' reg_all hF ?_ mixed (by kernel_rfl) ?_
  rotate_left
  · repeat (first
        | exact Line.nil
        | ((first | refine' Line.cons rfl (.run rfl rfl ?_) ?_ | refine' Line.cons rfl (.yes rfl rfl rfl rfl ?_) ?_)
           any_goals (first | exact cMove rfl rfl | exact cAssign rfl rfl | exact cNot rfl rfl | exact cSub (r := (i : Int) - 1) rfl rfl rfl (by omega) | exact cPickF rfl rfl rfl | exact cGeq rfl rfl rfl | exact cEql rfl rfl rfl | exact cNeq rfl rfl rfl | exact cExtract rfl rfl rfl)
           rotate_left))
  intro a w13 hF hb hN
  have hBs := hB.size
  replace hB := hB.trans (hb.mono hB.size)
  dsimp only [ext, Option.getD] at hF
  repeat with_reducible first | refine wp_seq ?_ | refine nThen ?_ | refine nBlk ?_ | refine wp_skip ?_ | refine wp_block ?_ | refine wp_exit ?_ | refine xThen ?_ | refine xHere ?_ | refine wp_ret ?_ | refine rThen ?_ | refine rBlk ?_
  exact ⟨i, by omega, n + (P.length + M.length), by omega, by omega, hgo, hF.keep [2, 3, 6, 7], hB⟩
end Go.Proofs.YtgmeagkolahkoaaDoor

/- The document's strata: GoodStrata. -/
namespace Go.Proofs.YtgmeagkolahkoaaDoor
open Go.RowKit

section
variable {w0 : World} {Γ : Ctx} {o : Oper} {x : Operand} {sd : Nat} {L : List Cl} {e : TypeId}
theorem cTabS (ho : o.op = .fieldAddr 72 x 0) (hx : Has w0 Γ x (Ty.tabP 72 e sd L)) : OpOk Tryd.prog w0 Γ o (Ty.at_ 72 [.int .u64 (sd : Int)]) :=
  .val fun a w hb hs => by
    obtain ⟨v, h1, s, ⟨g, off, cs, fr, rfl, h2, h3⟩, k1⟩ := hx.see hs (by simp [ho, Op.operands]) hb
    have hr := run_fieldAt (P := Tryd.prog) (i := 0) Tryd.underlying72 rfl size_u64 g off w
    refine ⟨.pointer (some ⟨g, off + 0, none⟩), ⟨g, off + 0, cs, fr, rfl, h2, fun j u hu => ?_⟩, ?_⟩
    · cases j with
      | zero => exact h3 0 u hu
      | succ j => simp at hu
    · unfold execOp
      simp [ho, h1, hr]
theorem cTabL (ho : o.op = .fieldAddr 72 x 1) (hx : Has w0 Γ x (Ty.tabP 72 e sd L)) : OpOk Tryd.prog w0 Γ o (Ty.selS 72 e L.length (flatC L)) :=
  .val fun a w hb hs => by
    obtain ⟨v, h1, s, ⟨g, off, cs, fr, rfl, h2, h3⟩, k1⟩ := hx.see hs (by simp [ho, Op.operands]) hb
    have hr := run_fieldAt (P := Tryd.prog) (i := 1) Tryd.underlying72 rfl size_row83 g off w
    refine ⟨.pointer (some ⟨g, off + 1, none⟩), ⟨s, ⟨g, off + 1, cs, fr, rfl, h2, fun j u hu => ?_⟩, k1⟩, ?_⟩
    · cases j with
      | zero => exact h3 1 u hu
      | succ j => simp at hu
    · unfold execOp
      simp [ho, h1, hr]
theorem cLoadSelD {t : TypeId} {n : Nat} {xs : List Value} (ho : o.op = .load 70 x) (hx : OpT Γ x (Ty.selS t e n xs)) : OpOk Tryd.prog w0 Γ o (Ty.sl e n xs) :=
  .val fun a w hb hs => by
    obtain ⟨v, h1, p, hat, hsl⟩ := hs x _ (by simp [ho, Op.operands]) hx
    obtain ⟨ad, rfl, h3⟩ := pts_at _ _ w v hat
    refine ⟨p, hsl, ?_⟩
    have h4 := run_loadVar_one (P := Tryd.prog) h3 Tryd.underlying70 rfl
    unfold execOp
    simp [ho, h1, Instr.loadAt, Instr.sureAddr, h4]
end
set_option maxRecDepth 100000 in
theorem rsgood_ty (sd : Nat) (Ls : List (List Cl)) (hL : Ls.length ≤ 1000000) : Fn1 Tryd.prog 15 (Ty.stra 72 114 sd Ls) (Ty.ex (.bool (goodSt Ls))) := by
  refine ⟨fun args w => by kernel_rfl, fun w v ⟨s, hv, hs⟩ => ?_⟩
  subst hv
  let TL := Ty.tabs 72 114 sd Ls
  let TP := Ty.straP StTR 72 114 sd Ls
  refine enter_ty 34 [Ty.ex (.agg #[.int .u64 (sd : Int), s])] Tryd.func15 rfl (by kernel_rfl) ⟨rfl, trivial⟩ fun a hF => ?_
  have hB := Below.refl w.heap.size w
  repeat with_reducible first | refine wp_seq ?_ | refine nThen ?_ | refine nBlk ?_ | refine wp_skip ?_ | refine wp_block ?_ | refine wp_exit ?_ | refine xThen ?_ | refine xHere ?_ | refine wp_ret ?_ | refine rThen ?_ | refine rBlk ?_
  refine' reg_all hF ?_ mixed (by kernel_rfl) ?_
  rotate_left
  · repeat (first
        | exact Line.nil
        | (refine' Line.cons rfl (.no rfl rfl rfl rfl rfl rfl) ?_; rotate_left)
        | ((first | refine' Line.cons rfl (.run rfl rfl ?_) ?_ | refine' Line.cons rfl (.yes rfl rfl rfl rfl ?_) ?_)
           any_goals (first | exact cMove rfl rfl | exact cAssign rfl rfl | exact cBoxTab rfl rfl | exact cPickT rfl rfl rfl | exact cPickF rfl rfl rfl | exact cLss rfl rfl rfl | exact cEql rfl rfl rfl | exact cNeq rfl rfl rfl)
           rotate_left))
  intro a w1 hF hb hN
  have hBs := hB.size
  replace hB := hB.trans (hb.mono hB.size)
  dsimp only [ext, Option.getD] at hF
  repeat with_reducible first | refine wp_seq ?_ | refine nThen ?_ | refine nBlk ?_ | refine wp_skip ?_ | refine wp_block ?_ | refine wp_exit ?_ | refine xThen ?_ | refine xHere ?_ | refine wp_ret ?_ | refine rThen ?_ | refine rBlk ?_
  obtain ⟨p, hp, hF⟩ := hF.open (s := 1) rfl
  have hp : TP.p w1 p := ⟨s, hp, TL.below hs hB⟩
  have hB1 := hB
  replace hB := Below.refl w1.heap.size w1
  refine' reg_all hF ?_ mixed (by kernel_rfl) ?_
  rotate_left
  · repeat (first
        | exact Line.nil
        | (refine' Line.cons rfl (.no rfl rfl rfl rfl rfl rfl) ?_; rotate_left)
        | ((first | refine' Line.cons rfl (.run rfl rfl ?_) ?_ | refine' Line.cons rfl (.yes rfl rfl rfl rfl ?_) ?_)
           any_goals (first | exact cMove rfl rfl | exact cAssign rfl rfl | exact cPickT rfl rfl rfl | exact cPickF rfl rfl rfl | exact cLss rfl rfl rfl | exact cEql rfl rfl rfl | exact cNeq rfl rfl rfl)
           rotate_left))
  intro a w2 hF hb hN
  have hBs := hB.size
  replace hB := hB.trans (hb.mono hB.size)
  dsimp only [ext, Option.getD] at hF
  repeat with_reducible first | refine wp_seq ?_ | refine nThen ?_ | refine nBlk ?_ | refine wp_skip ?_ | refine wp_block ?_ | refine wp_exit ?_ | refine xThen ?_ | refine xHere ?_ | refine wp_ret ?_ | refine rThen ?_ | refine rBlk ?_
  refine loop_ty (fun m a wr => ∃ k : Nat, k + m = Ls.length ∧ Fr 34 [(1, Ty.ex p), (3, Ty.ex (.int .i64 (k : Int)))] a wr ∧ Below w1.heap.size w1 wr ∧ ∀ j, j < k → (Ls.getD j []).length = 24) Ls.length ?_ ?_
  · exact ⟨0, by omega, hF.keep [1, 3], hB, fun j hj => by omega⟩
  clear hF hB
  rintro m a wr ⟨k, hk, hF, hB, hlo⟩
  repeat with_reducible first | refine wp_seq ?_ | refine nThen ?_ | refine nBlk ?_ | refine wp_skip ?_ | refine wp_block ?_ | refine wp_exit ?_ | refine xThen ?_ | refine xHere ?_ | refine wp_ret ?_ | refine rThen ?_ | refine rBlk ?_
  refine' reg_all hF ?_ mixed (by kernel_rfl) ?_
  rotate_left
  · repeat (first
        | exact Line.nil
        | (refine' Line.cons rfl (.no rfl rfl rfl rfl rfl rfl) ?_; rotate_left)
        | ((first | refine' Line.cons rfl (.run rfl rfl ?_) ?_ | refine' Line.cons rfl (.yes rfl rfl rfl rfl ?_) ?_)
           any_goals (first | exact cMove rfl rfl | exact cAssign rfl rfl | exact cStraLR rfl (.l rfl (TP.below hp hB)) | exact cLoadTsR rfl (.t rfl) | exact cLenTR rfl (.t rfl) | exact cPickT rfl rfl rfl | exact cPickF rfl rfl rfl | exact cLss rfl rfl rfl | exact cEql rfl rfl rfl | exact cNeq rfl rfl rfl)
           rotate_left))
  intro a w3 hF hb hN
  have hBs := hB.size
  replace hB := hB.trans (hb.mono hB.size)
  dsimp only [ext, Option.getD] at hF
  repeat with_reducible first | refine wp_seq ?_ | refine nThen ?_ | refine nBlk ?_ | refine wp_skip ?_ | refine wp_block ?_ | refine wp_exit ?_ | refine xThen ?_ | refine xHere ?_ | refine wp_ret ?_ | refine rThen ?_ | refine rBlk ?_
  refine cond_ty hF rfl (fun hlt => ?_) (fun hge => ?_)
  · have hlt : k < Ls.length := by have := of_decide_eq_true hlt; omega
    have hp3 := TP.below hp hB
    repeat with_reducible first | refine wp_seq ?_ | refine nThen ?_ | refine nBlk ?_ | refine wp_skip ?_ | refine wp_block ?_ | refine wp_exit ?_ | refine xThen ?_ | refine xHere ?_ | refine wp_ret ?_ | refine rThen ?_ | refine rBlk ?_
    by_cases h24 : (Ls.getD k []).length = 24
    · refine' reg_all hF ?_ mixed (by kernel_rfl) ?_
      rotate_left
      · repeat (first
            | exact Line.nil
            | (refine' Line.cons rfl (.no rfl rfl rfl rfl rfl rfl) ?_; rotate_left)
            | ((first | refine' Line.cons rfl (.run rfl rfl ?_) ?_ | refine' Line.cons rfl (.yes rfl rfl rfl rfl ?_) ?_)
               any_goals (first | exact cMove rfl rfl | exact cAssign rfl rfl | exact cStraLR rfl (.l rfl hp3) | exact cLoadTsR rfl (.t rfl) | exact cIdxTR (k := k) rfl (.t rfl) rfl hlt | exact cTabL rfl (.t rfl) | exact cTabS rfl (.t rfl) | exact cLoadSelD rfl rfl | exact cLen rfl rfl (Ty.sl_isSl _ _ _) Tryd.underlying70 | exact OpOk.b (c := false) (cNeq rfl rfl rfl) (by rw [decide_eq_true (show ((Ls.getD k []).length : Int) = 24 by omega)]; rfl) | exact cStraSR rfl (.l rfl hp3) | exact cLoadU64 rfl (.t rfl) | exact OpOk.b (c := false) (cNeq rfl rfl rfl) (by simp) | exact cPickT rfl rfl rfl | exact cPickF rfl rfl rfl | exact cLss rfl rfl rfl | exact cEql rfl rfl rfl | exact cNeq rfl rfl rfl)
               rotate_left))
      intro a w4 hF hb hN
      have hBs := hB.size
      replace hB := hB.trans (hb.mono hB.size)
      dsimp only [ext, Option.getD] at hF
      repeat with_reducible first | refine wp_seq ?_ | refine nThen ?_ | refine nBlk ?_ | refine wp_skip ?_ | refine wp_block ?_ | refine wp_exit ?_ | refine xThen ?_ | refine xHere ?_ | refine wp_ret ?_ | refine rThen ?_ | refine rBlk ?_
      refine cond_f hF rfl ?_
      repeat with_reducible first | refine wp_seq ?_ | refine nThen ?_ | refine nBlk ?_ | refine wp_skip ?_ | refine wp_block ?_ | refine wp_exit ?_ | refine xThen ?_ | refine xHere ?_ | refine wp_ret ?_ | refine rThen ?_ | refine rBlk ?_
      refine' reg_all hF ?_ mixed (by kernel_rfl) ?_
      rotate_left
      · repeat (first
            | exact Line.nil
            | (refine' Line.cons rfl (.no rfl rfl rfl rfl rfl rfl) ?_; rotate_left)
            | ((first | refine' Line.cons rfl (.run rfl rfl ?_) ?_ | refine' Line.cons rfl (.yes rfl rfl rfl rfl ?_) ?_)
               any_goals (first | exact cMove rfl rfl | exact cAssign rfl rfl | exact cAdd (r := ((k + 1 : Nat) : Int)) rfl rfl rfl (by omega) | exact cPickT rfl rfl rfl | exact cPickF rfl rfl rfl | exact cLss rfl rfl rfl | exact cEql rfl rfl rfl | exact cNeq rfl rfl rfl)
               rotate_left))
      intro a w5 hF hb hN
      have hBs := hB.size
      replace hB := hB.trans (hb.mono hB.size)
      dsimp only [ext, Option.getD] at hF
      repeat with_reducible first | refine wp_seq ?_ | refine nThen ?_ | refine nBlk ?_ | refine wp_skip ?_ | refine wp_block ?_ | refine wp_exit ?_ | refine xThen ?_ | refine xHere ?_ | refine wp_ret ?_ | refine rThen ?_ | refine rBlk ?_
      refine ⟨m - 1, by omega, k + 1, by omega, hF.keep [1, 3], hB, fun j hj => ?_⟩
      by_cases hjk : j = k
      · subst hjk; exact h24
      · exact hlo j (by omega)
    · refine' reg_all hF ?_ mixed (by kernel_rfl) ?_
      rotate_left
      · repeat (first
            | exact Line.nil
            | (refine' Line.cons rfl (.no rfl rfl rfl rfl rfl rfl) ?_; rotate_left)
            | ((first | refine' Line.cons rfl (.run rfl rfl ?_) ?_ | refine' Line.cons rfl (.yes rfl rfl rfl rfl ?_) ?_)
               any_goals (first | exact cMove rfl rfl | exact cAssign rfl rfl | exact cStraLR rfl (.l rfl hp3) | exact cLoadTsR rfl (.t rfl) | exact cIdxTR (k := k) rfl (.t rfl) rfl hlt | exact cTabL rfl (.t rfl) | exact cLoadSelD rfl rfl | exact cLen rfl rfl (Ty.sl_isSl _ _ _) Tryd.underlying70 | exact OpOk.b (c := true) (cNeq rfl rfl rfl) (by rw [decide_eq_false (show ¬ ((Ls.getD k []).length : Int) = 24 by omega)]; rfl) | exact cPickT rfl rfl rfl | exact cPickF rfl rfl rfl | exact cLss rfl rfl rfl | exact cEql rfl rfl rfl | exact cNeq rfl rfl rfl)
               rotate_left))
      intro a w4 hF hb hN
      have hBs := hB.size
      replace hB := hB.trans (hb.mono hB.size)
      dsimp only [ext, Option.getD] at hF
      repeat with_reducible first | refine wp_seq ?_ | refine nThen ?_ | refine nBlk ?_ | refine wp_skip ?_ | refine wp_block ?_ | refine wp_exit ?_ | refine xThen ?_ | refine xHere ?_ | refine wp_ret ?_ | refine rThen ?_ | refine rBlk ?_
      refine cond_t hF rfl ?_
      repeat with_reducible first | refine wp_seq ?_ | refine nThen ?_ | refine nBlk ?_ | refine wp_skip ?_ | refine wp_block ?_ | refine wp_exit ?_ | refine xThen ?_ | refine xHere ?_ | refine wp_ret ?_ | refine rThen ?_ | refine rBlk ?_
      refine' reg_all hF ?_ mixed (by kernel_rfl) ?_
      rotate_left
      · repeat (first
            | exact Line.nil
            | (refine' Line.cons rfl (.no rfl rfl rfl rfl rfl rfl) ?_; rotate_left)
            | ((first | refine' Line.cons rfl (.run rfl rfl ?_) ?_ | refine' Line.cons rfl (.yes rfl rfl rfl rfl ?_) ?_)
               any_goals (first | exact cMove rfl rfl | exact cAssign rfl rfl | exact cPickT rfl rfl rfl | exact cPickF rfl rfl rfl | exact cLss rfl rfl rfl | exact cEql rfl rfl rfl | exact cNeq rfl rfl rfl)
               rotate_left))
      intro a w5 hF hb hN
      have hBs := hB.size
      replace hB := hB.trans (hb.mono hB.size)
      dsimp only [ext, Option.getD] at hF
      repeat with_reducible first | refine wp_seq ?_ | refine nThen ?_ | refine nBlk ?_ | refine wp_skip ?_ | refine wp_block ?_ | refine wp_exit ?_ | refine xThen ?_ | refine xHere ?_ | refine wp_ret ?_ | refine rThen ?_ | refine rBlk ?_
      refine ret1 hF rfl rfl fun z hz => ?_
      exact ⟨z, rfl, by rw [goodSt_is, allG_bad hlt h24, Bool.and_false]; exact hz, hB1.trans (hB.mono hB1.size)⟩
  · have hge : ¬ k < Ls.length := by have := of_decide_eq_false hge; omega
    have hall : allG Ls = true := allG_all fun j hj => hlo j (by omega)
    have hp3 := TP.below hp hB
    rw [goodSt_is, hall, Bool.and_true]
    repeat with_reducible first | refine wp_seq ?_ | refine nThen ?_ | refine nBlk ?_ | refine wp_skip ?_ | refine wp_block ?_ | refine wp_exit ?_ | refine xThen ?_ | refine xHere ?_ | refine wp_ret ?_ | refine rThen ?_ | refine rBlk ?_
    refine' reg_all hF ?_ mixed (by kernel_rfl) ?_
    rotate_left
    · repeat (first
          | exact Line.nil
          | (refine' Line.cons rfl (.no rfl rfl rfl rfl rfl rfl) ?_; rotate_left)
          | ((first | refine' Line.cons rfl (.run rfl rfl ?_) ?_ | refine' Line.cons rfl (.yes rfl rfl rfl rfl ?_) ?_)
             any_goals (first | exact cMove rfl rfl | exact cAssign rfl rfl | exact cStraLR rfl (.l rfl hp3) | exact cLoadTsR rfl (.t rfl) | exact cLenTR rfl (.t rfl) | exact OpOk.b (c := decide (Ls.length = 10)) (cEql rfl rfl rfl) (decide_eq_decide.2 (by omega)) | exact cPickT rfl rfl rfl | exact cPickF rfl rfl rfl | exact cLss rfl rfl rfl | exact cEql rfl rfl rfl | exact cNeq rfl rfl rfl)
             rotate_left))
    intro a w4 hF hb hN
    have hBs := hB.size
    replace hB := hB.trans (hb.mono hB.size)
    dsimp only [ext, Option.getD] at hF
    repeat with_reducible first | refine wp_seq ?_ | refine nThen ?_ | refine nBlk ?_ | refine wp_skip ?_ | refine wp_block ?_ | refine wp_exit ?_ | refine xThen ?_ | refine xHere ?_ | refine wp_ret ?_ | refine rThen ?_ | refine rBlk ?_
    refine ret1 hF rfl rfl fun z hz => ?_
    exact ⟨z, rfl, hz, hB1.trans (hB.mono hB1.size)⟩
end Go.Proofs.YtgmeagkolahkoaaDoor

/- The document's next, by types. -/
namespace Go.Proofs.YtgmeagkolahkoaaDoor
open Go.RowKit

theorem next_is {seed : Nat} {L : List Cl} {i : Nat} (hi : i < L.length) (hno : ∀ j, j < i → pureAt seed L j = false) (hp : pureAt seed L i = true) : nextI seed L = i := by
  obtain ⟨h1, h2⟩ := next_at hi hp
  rcases Nat.lt_trichotomy (nextI seed L) i with h | h | h
  · rw [hno _ h] at h2; cases h2
  · exact h
  · have h3 := firstP_no (pureAt seed L) L.length 0 i h
    rw [Nat.zero_add, hp] at h3
    cases h3
def nextN (seed : Nat) (L : List Cl) : Int := if nextI seed L < L.length then (nextI seed L : Int) else -1
set_option maxRecDepth 100000 in
set_option maxHeartbeats 2000000 in
theorem rnext_ty (seed : Nat) (L : List Cl) (hL : L.length ≤ 1000000) (hsd : seed < 18446744073709551616) : Fn1 Tryd.prog 56 (Ty.tab 114 seed L) (Ty.ex (.int .i64 (nextN seed L))) := by
  refine ⟨fun args w => by kernel_rfl, fun w v ⟨s, hv, hs⟩ => ?_⟩
  subst hv
  refine enter_ty 45 [Ty.ex (.agg #[.int .u64 (seed : Int), s])] Tryd.func56 rfl (by kernel_rfl) ⟨rfl, trivial⟩ fun a hF => ?_
  have hB := Below.refl w.heap.size w
  let TL := Ty.cls 114 L
  repeat with_reducible refine wp_seq ?_
  refine' reg_all hF ?_ mixed (by kernel_rfl) ?_
  rotate_left
  · repeat (first | exact Line.nil | ((refine' Line.cons rfl (.run rfl rfl ?_) ?_); (any_goals (first | exact cAssign rfl rfl | exact cBoxTab rfl rfl)); rotate_left))
  intro a w1 hF hb hN
  have hBs := hB.size
  replace hB := hB.trans (hb.mono hB.size)
  dsimp only [ext, Option.getD] at hF
  repeat with_reducible first | refine wp_seq ?_ | refine nThen ?_
  obtain ⟨p1, hp1, hF⟩ := hF.open (s := 1) rfl
  let TP := Ty.at_ 72 [.int .u64 (seed : Int), s]
  have hs1 := TL.below hs hB
  have hB0 := hB
  have hw1 := hB.size
  replace hB := Below.refl w1.heap.size w1
  refine' reg_all hF ?_ mixed (by kernel_rfl) ?_
  rotate_left
  · repeat (first | exact Line.nil | ((refine' Line.cons rfl (.run rfl rfl ?_) ?_); (any_goals exact cAssign rfl rfl); rotate_left))
  intro a w2 hF hb hN
  have hBs := hB.size
  replace hB := hB.trans (hb.mono hB.size)
  dsimp only [ext, Option.getD] at hF
  repeat with_reducible first | refine nThen ?_ | refine wp_block ?_
  refine loop_ty (fun m a wr => ∃ i : Nat, i + m = L.length ∧ Fr 45 [(1, Ty.ex p1), (3, Ty.ex (.int .i64 (i : Int)))] a wr ∧ Below w1.heap.size w1 wr ∧ ∀ j, j < i → pureAt seed L j = false) L.length ?_ ?_
  · exact ⟨0, by omega, hF.keep [1, 3], hB, fun j hj => by omega⟩
  clear hF hB hb hBs
  rintro m a wr ⟨i, hi, hF, hB, hno⟩
  have kp := TP.below hp1 hB
  have ks := TL.below hs1 hB
  repeat with_reducible refine wp_seq ?_
  refine' reg_all hF ?_ mixed (by kernel_rfl) ?_
  rotate_left
  · repeat (first | exact Line.nil | ((refine' Line.cons rfl (.run rfl rfl ?_) ?_); (any_goals (first | exact cMove rfl rfl | exact cFldL83 rfl (.l rfl kp) | exact cRowOf83 rfl (.t rfl) | exact cLenH rfl (.l rfl ks) (Ty.sl_isSl _ _ _) Tryd.underlying70 | exact cLss rfl rfl rfl)); rotate_left))
  intro a w3 hF hb hN
  have hBs := hB.size
  replace hB := hB.trans (hb.mono hB.size)
  dsimp only [ext, Option.getD] at hF
  repeat with_reducible refine nThen ?_
  refine cond_ty hF rfl (fun hlt => ?_) (fun hge => ?_)
  · have hlt : i < L.length := by have := of_decide_eq_true hlt; omega
    replace kp := TP.below kp hb
    replace ks := TL.below ks hb
    have hPu := rpure_ty (L.getD i default)
    have ePA : pureAt seed L i = ((L.getD i default).ok && isAt seed L.length i (L.getD i default).key) := rfl
    obtain ⟨c, hc⟩ : ∃ c, c = L.getD i default := ⟨_, rfl⟩
    repeat with_reducible first | refine wp_seq ?_ | refine nThen ?_ | refine wp_skip ?_ | refine wp_block ?_
    cases hk : (L.getD i default).ok with
    | false =>
      rw [hk] at hPu
      rw [hk, Bool.false_and] at ePA
      refine' reg_all hF ?_ mixed (by kernel_rfl) ?_
      rotate_left
      · repeat (first | exact Line.nil | ((refine' Line.cons rfl (.run rfl rfl ?_) ?_); (any_goals (first | exact cMove rfl rfl | exact cNot rfl rfl | exact cFldL83 rfl (.l rfl kp) | exact cRowOf83 rfl (.t rfl) | exact cIndexCl (k := i) rfl (.l rfl ks) rfl Tryd.underlying70 info49 hlt | exact cLoadCl49 rfl (.t rfl) | exact cCall1 rfl rfl hPu)); rotate_left))
      intro a w4 hF hb hN
      have hBs := hB.size
      replace hB := hB.trans (hb.mono hB.size)
      dsimp only [ext, Option.getD] at hF
      repeat with_reducible refine nThen ?_
      refine cond_t hF rfl ?_
      repeat with_reducible first | refine nThen ?_ | refine wp_exit ?_ | refine xThen ?_ | refine xHere ?_
      refine' reg_all hF ?_ mixed (by kernel_rfl) ?_
      rotate_left
      · repeat (first | exact Line.nil | ((refine' Line.cons rfl (.run rfl rfl ?_) ?_); (any_goals (first | exact cMove rfl rfl | exact cAssign rfl rfl | exact cAdd (r := ((i + 1 : Nat) : Int)) rfl rfl rfl (by omega))); rotate_left))
      intro a w5 hF hb hN
      have hBs := hB.size
      replace hB := hB.trans (hb.mono hB.size)
      dsimp only [ext, Option.getD] at hF
      repeat with_reducible refine nThen ?_
      refine ⟨m - 1, by omega, i + 1, by omega, hF.keep [1, 3], hB, fun j hj => ?_⟩
      by_cases hji : j = i
      · rw [hji]; exact ePA
      · exact hno j (by omega)
    | true =>
      rw [hk] at hPu
      rw [hk, Bool.true_and] at ePA
      refine' reg_all hF ?_ mixed (by kernel_rfl) ?_
      rotate_left
      · repeat (first | exact Line.nil | ((refine' Line.cons rfl (.run rfl rfl ?_) ?_); (any_goals (first | exact cMove rfl rfl | exact cNot rfl rfl | exact cFldL83 rfl (.l rfl kp) | exact cRowOf83 rfl (.t rfl) | exact cIndexCl (k := i) rfl (.l rfl ks) rfl Tryd.underlying70 info49 hlt | exact cLoadCl49 rfl (.t rfl) | exact cCall1 rfl rfl hPu)); rotate_left))
      intro a w4 hF hb hN
      have hBs := hB.size
      replace hB := hB.trans (hb.mono hB.size)
      dsimp only [ext, Option.getD] at hF
      repeat with_reducible refine nThen ?_
      replace kp := TP.below kp hb
      replace ks := TL.below ks hb
      refine cond_f hF rfl ?_
      have hPp := rplaces_ty seed (L.length : Int) (L.getD i default).key hsd
      have hPl3 := placesN_len3 seed (L.length : Int) (L.getD i default).key
      have hIs : isAt seed L.length i (L.getD i default).key = decide (i ∈ placesN seed (L.length : Int) (L.getD i default).key) := rfl
      rw [hIs] at ePA
      generalize placesN seed (L.length : Int) (L.getD i default).key = PL at *
      clear hIs
      repeat with_reducible first | refine wp_seq ?_ | refine nThen ?_ | refine wp_skip ?_
      refine' reg_all hF ?_ mixed (by kernel_rfl) ?_
      rotate_left
      · repeat (first | exact Line.nil | ((refine' Line.cons rfl (.run rfl rfl ?_) ?_); (any_goals (first | exact cMove rfl rfl | exact cAssign rfl rfl | exact cFldS83 rfl (.l rfl kp) | exact cLoadU64 rfl (.t rfl) | exact cFldL83 rfl (.l rfl kp) | exact cRowOf83 rfl (.t rfl) | exact cLenH rfl (.l rfl ks) (Ty.sl_isSl _ _ _) Tryd.underlying70 | exact cIndexCl (k := i) rfl (.l rfl ks) rfl Tryd.underlying70 info49 hlt | exact cFldK49 rfl (.t rfl) | exact cLoadSum rfl (.t rfl) Tryd.underlying112 sizeR | exact cCall3 rfl rfl rfl rfl hPp)); rotate_left))
      intro a w5 hF hb hN
      have hBs := hB.size
      replace hB := hB.trans (hb.mono hB.size)
      dsimp only [ext, Option.getD] at hF
      repeat with_reducible first | refine wp_seq ?_ | refine nThen ?_
      obtain ⟨v4, hv4, hF⟩ := hF.open (s := 4) rfl
      let TV := Ty.sl 3 PL.length (PL.map ivn)
      refine' reg_all hF ?_ mixed (by kernel_rfl) ?_
      rotate_left
      · repeat (first | exact Line.nil | ((refine' Line.cons rfl (.run rfl rfl ?_) ?_); (any_goals exact cAssign rfl rfl); rotate_left))
      intro a w6 hF hb hN
      have hBs := hB.size
      replace hB := hB.trans (hb.mono hB.size)
      dsimp only [ext, Option.getD] at hF
      repeat with_reducible first | refine nThen ?_ | refine wp_block ?_
      have hv4 := TV.below hv4 hb
      have hB6 := hB
      refine loop_ty (fun m a wr => ∃ k : Nat, k + m = PL.length ∧ Fr 45 [(1, Ty.ex p1), (3, Ty.ex (.int .i64 (i : Int))), (4, Ty.ex v4), (5, Ty.ex (.int .i64 (k : Int)))] a wr ∧ Below w1.heap.size w1 wr ∧ TV.p wr v4 ∧ ∀ j, j < k → ¬ PL.getD j 0 = i) PL.length ?_ ?_
      · exact ⟨0, by omega, hF.keep [1, 3, 4, 5], hB, hv4, fun j hj => by omega⟩
      clear hF hB hb hBs hv4 hB6 kp ks
      rintro m2 a wr2 ⟨k, hk2, hF, hB, hv4, hnk⟩
      repeat with_reducible refine wp_seq ?_
      refine' reg_all hF ?_ mixed (by kernel_rfl) ?_
      rotate_left
      · repeat (first | exact Line.nil | ((refine' Line.cons rfl (.run rfl rfl ?_) ?_); (any_goals (first | exact cMove rfl rfl | exact cLenH rfl (.l rfl hv4) (Ty.sl_isSl _ _ _) Tryd.underlying23 | exact cLss rfl rfl rfl)); rotate_left))
      intro a w7 hF hb hN
      have hBs := hB.size
      replace hB := hB.trans (hb.mono hB.size)
      dsimp only [ext, Option.getD] at hF
      repeat with_reducible refine nThen ?_
      replace hv4 := TV.below hv4 hb
      refine cond_ty hF rfl (fun hlt2 => ?_) (fun hge2 => ?_)
      · have hlt2 : k < PL.length := by have := of_decide_eq_true hlt2; omega
        have hd1 := ivn_drop hlt2
        have hmem := getD_mem hlt2
        obtain ⟨q, hq⟩ : ∃ q, q = PL.getD k 0 := ⟨_, rfl⟩
        rw [← hq] at hd1 hmem
        repeat with_reducible first | refine wp_seq ?_ | refine nThen ?_ | refine wp_skip ?_ | refine wp_block ?_
        by_cases hqi : q = i
        · refine' reg_all hF ?_ mixed (by kernel_rfl) ?_
          rotate_left
          · repeat (first | exact Line.nil | ((refine' Line.cons rfl (.run rfl rfl ?_) ?_); (any_goals (first | exact cMove rfl rfl | exact cIndexS (k := k) (sz := 1) rfl (.l rfl hv4) rfl Tryd.underlying23 sizeI hlt2 (by rw [List.length_map]; omega) | exact cLoad1 (u := ivn q) rfl (Has.c (.t rfl) (fun W v h => by rw [Nat.mul_one, hd1] at h; exact h)) (pts_at _ _) Tryd.underlying3 rfl | exact OpOk.b (c := true) (cEql rfl rfl rfl) (decide_eq_true (by rw [hqi])))); rotate_left))
          intro a w8 hF hb hN
          have hBs := hB.size
          replace hB := hB.trans (hb.mono hB.size)
          dsimp only [ext, Option.getD] at hF
          repeat with_reducible refine nThen ?_
          refine cond_t hF rfl ?_
          repeat with_reducible refine wp_seq ?_
          refine' reg_all hF ?_ mixed (by kernel_rfl) ?_
          rotate_left
          · repeat (first | exact Line.nil | ((refine' Line.cons rfl (.run rfl rfl ?_) ?_); (any_goals (first | exact cMove rfl rfl | exact cAssign rfl rfl)); rotate_left))
          intro a w9 hF hb hN
          have hBs := hB.size
          replace hB := hB.trans (hb.mono hB.size)
          dsimp only [ext, Option.getD] at hF
          repeat with_reducible first | refine nThen ?_ | refine wp_ret ?_ | refine rThen ?_ | refine rBlk ?_
          refine ret1 hF rfl rfl fun z hz => ?_
          have hn : nextI seed L = i := next_is hlt hno (by rw [ePA]; exact decide_eq_true (hqi ▸ hmem))
          refine ⟨z, rfl, ?_, hB0.trans (hB.mono hw1)⟩
          rw [show z = .int .i64 (i : Int) from hz]
          unfold nextN
          rw [hn, if_pos hlt]
          rfl
        · refine' reg_all hF ?_ mixed (by kernel_rfl) ?_
          rotate_left
          · repeat (first | exact Line.nil | ((refine' Line.cons rfl (.run rfl rfl ?_) ?_); (any_goals (first | exact cMove rfl rfl | exact cIndexS (k := k) (sz := 1) rfl (.l rfl hv4) rfl Tryd.underlying23 sizeI hlt2 (by rw [List.length_map]; omega) | exact cLoad1 (u := ivn q) rfl (Has.c (.t rfl) (fun W v h => by rw [Nat.mul_one, hd1] at h; exact h)) (pts_at _ _) Tryd.underlying3 rfl | exact OpOk.b (c := false) (cEql rfl rfl rfl) (decide_eq_false (fun e => hqi (Int.ofNat.inj e))))); rotate_left))
          intro a w8 hF hb hN
          have hBs := hB.size
          replace hB := hB.trans (hb.mono hB.size)
          dsimp only [ext, Option.getD] at hF
          repeat with_reducible refine nThen ?_
          refine cond_f hF rfl ?_
          repeat with_reducible first | refine nThen ?_ | refine nBlk ?_ | refine wp_skip ?_
          replace hv4 := TV.below hv4 hb
          refine' reg_all hF ?_ mixed (by kernel_rfl) ?_
          rotate_left
          · repeat (first | exact Line.nil | ((refine' Line.cons rfl (.run rfl rfl ?_) ?_); (any_goals (first | exact cMove rfl rfl | exact cAssign rfl rfl | exact cAdd (r := ((k + 1 : Nat) : Int)) rfl rfl rfl (by omega))); rotate_left))
          intro a w9 hF hb hN
          have hBs := hB.size
          replace hB := hB.trans (hb.mono hB.size)
          dsimp only [ext, Option.getD] at hF
          repeat with_reducible refine nThen ?_
          refine ⟨m2 - 1, by omega, k + 1, by omega, hF.keep [1, 3, 4, 5], hB, TV.below hv4 hb, fun j hj => ?_⟩
          by_cases hjk : j = k
          · rw [hjk, ← hq]; exact hqi
          · exact hnk j (by omega)
      · have hge2 : ¬ k < PL.length := by have := of_decide_eq_false hge2; omega
        repeat with_reducible first | refine nThen ?_ | refine nBlk ?_ | refine wp_exit ?_ | refine xThen ?_ | refine xHere ?_
        refine' reg_all hF ?_ mixed (by kernel_rfl) ?_
        rotate_left
        · repeat (first | exact Line.nil | ((refine' Line.cons rfl (.run rfl rfl ?_) ?_); (any_goals (first | exact cMove rfl rfl | exact cAssign rfl rfl | exact cAdd (r := ((i + 1 : Nat) : Int)) rfl rfl rfl (by omega))); rotate_left))
        intro a w8 hF hb hN
        have hBs := hB.size
        replace hB := hB.trans (hb.mono hB.size)
        dsimp only [ext, Option.getD] at hF
        repeat with_reducible refine nThen ?_
        refine ⟨m - 1, by omega, i + 1, by omega, hF.keep [1, 3], hB, fun j hj => ?_⟩
        by_cases hji : j = i
        · rw [hji, ePA]
          refine decide_eq_false fun hm => ?_
          obtain ⟨j2, hj2, he⟩ := List.getElem_of_mem hm
          exact hnk j2 (by omega) (by simp [List.getD, List.getElem?_eq_getElem hj2, he])
        · exact hno j (by omega)
  have hge : ¬ i < L.length := by have := of_decide_eq_false hge; omega
  repeat with_reducible first | refine wp_seq ?_ | refine nThen ?_ | refine wp_exit ?_ | refine xThen ?_ | refine xHere ?_
  refine' reg_all hF ?_ mixed (by kernel_rfl) ?_
  rotate_left
  · repeat (first | exact Line.nil | ((refine' Line.cons rfl (.run rfl rfl ?_) ?_); (any_goals exact cAssign rfl rfl); rotate_left))
  intro a w4 hF hb hN
  have hBs := hB.size
  replace hB := hB.trans (hb.mono hB.size)
  dsimp only [ext, Option.getD] at hF
  repeat with_reducible first | refine nThen ?_ | refine wp_ret ?_
  refine ret1 hF rfl rfl fun z hz => ?_
  have hn : nextI seed L = L.length := nextI_none fun j hj => hno j (by omega)
  refine ⟨z, rfl, ?_, hB0.trans (hB.mono hw1)⟩
  rw [show z = .int .i64 (-1) from hz]
  unfold nextN
  rw [hn, if_neg (Nat.lt_irrefl _)]
  rfl
end Go.Proofs.YtgmeagkolahkoaaDoor

/- The document's result, by types. -/
namespace Go.Proofs.YtgmeagkolahkoaaDoor
open Go.RowKit

abbrev ResTR : TypeId := 78
theorem infoResR : (Tryd.prog.info? ResTR).map (fun i => (i.zero, i.size, i.bytes)) = some (some (.agg #[nilS, nilS, .int .u64 0, nilS]), 4, 80) := by kernel_rfl
theorem sizeResR : (Tryd.prog.info? ResTR).map (·.size) = some 4 := by kernel_rfl
theorem buildR0R (w : World) : (Instr.build ResTR #[]).run Tryd.prog w = .ok (.agg #[nilS, nilS, .int .u64 0, nilS]) w := by kernel_rfl

theorem buildRLR (n : Int) {s : Value} (hs : ∃ A l c, s = .slice A l c) (w : World) : (Instr.build ResTR #[(2, .agg #[.int .u64 n, s])]).run Tryd.prog w = .ok (.agg #[nilS, nilS, .int .u64 n, s]) w := by
  obtain ⟨A, l, c, rfl⟩ := hs
  have hz : (zeroValue ResTR).run Tryd.prog w = .ok (.agg #[nilS, nilS, .int .u64 0, nilS]) w := by kernel_rfl
  have hu := run_underlying Tryd.underlying78 w
  simp only [Instr.build, Sem.run_bind, hz, Result.andThen_ok, hu]
  simp [Instr.fill, Value.cells]
theorem buildRR (n : Int) {p q s : Value} (hp : ∃ A l c, p = .slice A l c) (hq : ∃ A l c, q = .slice A l c) (hs : ∃ A l c, s = .slice A l c) (w : World) : (Instr.build ResTR #[(0, p), (1, q), (2, .agg #[.int .u64 n, s])]).run Tryd.prog w = .ok (.agg #[p, q, .int .u64 n, s]) w := by
  obtain ⟨A, l, c, rfl⟩ := hs
  obtain ⟨A1, l1, c1, rfl⟩ := hp
  obtain ⟨A2, l2, c2, rfl⟩ := hq
  have hz : (zeroValue ResTR).run Tryd.prog w = .ok (.agg #[nilS, nilS, .int .u64 0, nilS]) w := by kernel_rfl
  have hu := run_underlying Tryd.underlying78 w
  have h2 := Tryd.sizeOf76 w
  simp only [Instr.build, Sem.run_bind, hz, Result.andThen_ok, hu]
  simp [h2, Instr.fill, Value.cells]

/-- A result, as it reads. -/
def Ty.resR (P M : List Sm) (sd : Nat) (L : List Cl) : Ty := ⟨fun w v => ∃ p q s, v = .agg #[p, q, .int .u64 (sd : Int), s] ∧ SlP w 112 p P.length (flat P) ∧ SlP w 112 q M.length (flat M) ∧ SlP w 114 s L.length (flatC L), fun t => t == 112 || t == 114, fun {w w' v G} ⟨p, q, s, h1, h2, h3, h4⟩ k hA => by
  have a1 : Apart w G (fun t => t == 112) := fun b hb hl => let ⟨cs, t, fr, k1, k2⟩ := hA b hb hl; ⟨cs, t, fr, k1, by simp only [Bool.or_eq_false_iff] at k2; exact k2.1⟩
  have a2 : Apart w G (fun t => t == 114) := fun b hb hl => let ⟨cs, t, fr, k1, k2⟩ := hA b hb hl; ⟨cs, t, fr, k1, by simp only [Bool.or_eq_false_iff] at k2; exact k2.2⟩
  exact ⟨p, q, s, h1, (Ty.sums 112 P).st h2 k a1, (Ty.sums 112 M).st h3 k a1, (Ty.cls 114 L).st h4 k a2⟩⟩

section
variable {w0 : World} {Γ : Ctx} {o : Oper}
theorem cBuildResR {x y z : Operand} {P M : List Sm} {seed : Nat} {s : Value} {L : List Cl} {n1 n2 : Nat} (ho : o.op = .build ResTR #[(0, x), (1, y), (2, z)]) (hx : OpT Γ x (Ty.seg w0 112 32 n1 (flat P))) (hy : OpT Γ y (Ty.seg w0 112 32 n2 (flat M))) (hz : OpT Γ z (Ty.ex (.agg #[.int .u64 (seed : Int), s]))) (hs : SlP w0 114 s L.length (flatC L)) (h1 : n1 = P.length) (h2 : n2 = M.length) : OpOk Tryd.prog w0 Γ o (Ty.resR P M seed L) :=
  .val fun a w hb hs' => by
    subst h1 h2
    obtain ⟨p, k1, S1, k2, _⟩ := hs' x _ (by simp [ho, Op.operands]) hx
    obtain ⟨q, k3, S2, k4, _⟩ := hs' y _ (by simp [ho, Op.operands]) hy
    obtain ⟨e, k5, k6⟩ := hs' z _ (by simp [ho, Op.operands]) hz
    have k6 : e = .agg #[.int .u64 (seed : Int), s] := k6
    subst k6
    refine ⟨_, ⟨p, q, s, rfl, k2.sl, k4.sl, (Ty.cls 114 L).below hs hb⟩, ?_⟩
    unfold execOp
    simp only [ho]
    have e1 : ((#[(0, x), (1, y), (2, z)] : Array (Nat × Operand)).map fun (i, x) => (i, a.eval x)) = #[(0, p), (1, q), (2, .agg #[.int .u64 (seed : Int), s])] := by simp [k1, k3, k5]
    rw [e1, Sem.run_bind, buildRR (seed : Int) (seg_isA k2) (seg_isA k4) (sl_isA hs) w]
    rfl

end
/-- The address of a result that is read. -/
def Ty.resAR (P M : List Sm) (sd : Nat) (L : List Cl) : Ty := ⟨fun w v => ∃ p q s, (Ty.at_ ResTR [p, q, .int .u64 (sd : Int), s]).p w v ∧ SlP w 112 p P.length (flat P) ∧ SlP w 112 q M.length (flat M) ∧ SlP w 114 s L.length (flatC L), fun t => t == ResTR || (t == 112 || t == 114), fun {w w' v G} ⟨p, q, s, h1, h2, h3, h4⟩ k hA => by
  have a0 : Apart w G (fun t => t == ResTR) := fun b hb hl => let ⟨cs, t, fr, k1, k2⟩ := hA b hb hl; ⟨cs, t, fr, k1, by simp only [Bool.or_eq_false_iff] at k2; exact k2.1⟩
  have a1 : Apart w G (fun t => t == 112) := fun b hb hl => let ⟨cs, t, fr, k1, k2⟩ := hA b hb hl; ⟨cs, t, fr, k1, by simp only [Bool.or_eq_false_iff] at k2; exact k2.2.1⟩
  have a2 : Apart w G (fun t => t == 114) := fun b hb hl => let ⟨cs, t, fr, k1, k2⟩ := hA b hb hl; ⟨cs, t, fr, k1, by simp only [Bool.or_eq_false_iff] at k2; exact k2.2.2⟩
  exact ⟨p, q, s, (Ty.at_ ResTR _).st h1 k a0, (Ty.sums 112 P).st h2 k a1, (Ty.sums 112 M).st h3 k a1, (Ty.cls 114 L).st h4 k a2⟩⟩
section
variable {ops : Array Oper} {Q : Exit → Act → World → Prop} {N : Nat} {Γ : Ctx} {a : Act} {w : World} {o1 o2 : Oper} {rest : List Oper}
theorem tlNewResR {p q : Nat} {P M : List Sm} {seed : Nat} {L : List Cl} (hF : Fr N Γ a w) (h1 : o1.op = .alloc ResTR) (hg1 : o1.guard = none) (hd1 : o1.dst = some p) (hp : p < N) (hpq : Nat.beq p q = false)
    (h2 : o2.op = .store ResTR (.tmp p) (.tmp q)) (hg2 : o2.guard = none) (hd2 : o2.dst = none) (hq : look Γ q = some (Ty.resR P M seed L))
    (hk : ∀ a' w', Fr N ((p, Ty.resAR P M seed L) :: Γ) a' w' → Below w.heap.size w w' → wpList Tryd.prog ops Q rest a' w') : wpList Tryd.prog ops Q (o1 :: o2 :: rest) a w := by
  obtain ⟨v, ⟨x, y, s, rfl, k1, k2, k3⟩, hFo⟩ := hF.open hq
  refine wpList_plain hg1 fun K hK => ?_
  unfold Oper.wp execOp
  simp only [h1, Sem.run_bind, run_alloc_i infoResR, Result.andThen_ok, Sem.run_pure]
  refine hK _ _ ?_
  rw [hd1]
  have hb1 : Below w.heap.size w (w.alloc (.cells #[nilS, nilS, .int .u64 0, nilS] ResTR)) := ((Keeps.refl [] w).alloc _).below
  have hF1 : Fr N ((p, Ty.ex (.pointer (some ⟨w.heap.size, 0, none⟩))) :: (q, Ty.ex (.agg #[x, y, .int .u64 (seed : Int), s])) :: Γ) (a.put (some p) (.pointer (some ⟨w.heap.size, 0, none⟩))) (w.alloc (.cells #[nilS, nilS, .int .u64 0, nilS] ResTR)) := hFo.put hp hb1 rfl
  have hv3 := hF1.getEx (s := q) (v := .agg #[x, y, .int .u64 (seed : Int), s]) (by rw [look]; simp only [hpq, cond_false]; exact look_same _ _ _)
  refine tlStoreV (Δ := []) hF1 hg2 hd2 h2 (look_same _ _ _) hv3 (Blk.new w _ _) rfl (by rw [sizeResR]; rfl) (res_one (sl_isA k1) (sl_isA k2) (sl_isA k3)) (hF1.keep []) rfl ?_
  intro w' _ hb' hkx
  have hB := below_own hb1 hkx (by intro y hy; simp only [List.mem_singleton] at hy; omega)
  refine hk _ _ (hF.put hp hB ⟨x, y, s, ⟨w.heap.size, 0, _, (0, 0), rfl, hb', fun j u h => by simpa [Value.cells] using h⟩, (Ty.sums 112 P).below k1 hB, (Ty.sums 112 M).below k2 hB, (Ty.cls 114 L).below k3 hB⟩) hB
end
section
variable {w0 : World} {Γ : Ctx} {o : Oper} {x : Operand} {e : TypeId} {xs : List Value}
theorem sizeSL1R : (Tryd.prog.info? 76).map (·.size) = some 1 := by kernel_rfl
end

section
variable {w0 : World} {Γ : Ctx} {o : Oper} {x : Operand} {P M : List Sm} {sd : Nat} {L : List Cl}
theorem cSelPR (ho : o.op = .fieldAddr ResTR x 0) (hx : Has w0 Γ x (Ty.resAR P M sd L)) : OpOk Tryd.prog w0 Γ o (Ty.selS ResTR 112 P.length (flat P)) :=
  .val fun a w hb hs => by
    obtain ⟨v, h1, p, q, s, ⟨g, off, cs, fr, rfl, h2, h3⟩, k1, k2, k3⟩ := hx.see hs (by simp [ho, Op.operands]) hb
    have hr := run_fieldAt (P := Tryd.prog) (i := 0) Tryd.underlying78 rfl sizeSL1R g off w
    refine ⟨.pointer (some ⟨g, off + 0, none⟩), ⟨p, ⟨g, off + 0, cs, fr, rfl, h2, fun j u hu => ?_⟩, k1⟩, ?_⟩
    · cases j with
      | zero => exact h3 0 u hu
      | succ j => simp at hu
    · unfold execOp
      simp [ho, h1, hr]
theorem cSelMR (ho : o.op = .fieldAddr ResTR x 1) (hx : Has w0 Γ x (Ty.resAR P M sd L)) : OpOk Tryd.prog w0 Γ o (Ty.selS ResTR 112 M.length (flat M)) :=
  .val fun a w hb hs => by
    obtain ⟨v, h1, p, q, s, ⟨g, off, cs, fr, rfl, h2, h3⟩, k1, k2, k3⟩ := hx.see hs (by simp [ho, Op.operands]) hb
    have hr := run_fieldAt (P := Tryd.prog) (i := 1) Tryd.underlying78 rfl sizeSL1R g off w
    refine ⟨.pointer (some ⟨g, off + 1, none⟩), ⟨q, ⟨g, off + 1, cs, fr, rfl, h2, fun j u hu => ?_⟩, k2⟩, ?_⟩
    · cases j with
      | zero => exact h3 1 u hu
      | succ j => simp at hu
    · unfold execOp
      simp [ho, h1, hr]
theorem cLoadSelR {t e : TypeId} {n : Nat} {xs : List Value} (ho : o.op = .load 76 x) (hx : OpT Γ x (Ty.selS t e n xs)) : OpOk Tryd.prog w0 Γ o (Ty.sl e n xs) :=
  .val fun a w hb hs => by
    obtain ⟨v, h1, p, hat, hsl⟩ := hs x _ (by simp [ho, Op.operands]) hx
    obtain ⟨ad, rfl, h3⟩ := pts_at _ _ w v hat
    refine ⟨p, hsl, ?_⟩
    have h4 := run_loadVar_one (P := Tryd.prog) h3 Tryd.underlying76 rfl
    unfold execOp
    simp [ho, h1, Instr.loadAt, Instr.sureAddr, h4]
end
end Go.Proofs.YtgmeagkolahkoaaDoor

/- Layer 10 by types: the document's Of. -/
namespace Go.Proofs.YtgmeagkolahkoaaDoor
open Go.RowKit

/-- One more, laid where it belongs. -/
theorem ins_same {s : List Sm} {x : Sm} {k : Nat} (hk : k ≤ s.length) (h1 : 0 < k) (h2 : s.getD (k - 1) default = x) (D : List Sm) (hs : s = setL D) : s = setL (D ++ [x]) := by
  subst hs
  refine srt_ext (setL_srt _) (setL_srt _) fun z => ?_
  rw [setL_mem, setL_mem, List.mem_append, List.mem_singleton]
  constructor
  · exact .inl
  · rintro (h | h)
    · exact h
    · rw [h, ← h2, ← setL_mem D]
      exact mem_get.2 ⟨k - 1, by omega, rfl⟩
theorem ins_new {s : List Sm} {x : Sm} {k : Nat} (hk : k ≤ s.length) (hhi : ∀ j, k ≤ j → j < s.length → 0 < cmpL (s.getD j default).l x.l) (hlo : k = 0 ∨ ¬ 0 < cmpL (s.getD (k - 1) default).l x.l) (hne : k = 0 ∨ ¬ s.getD (k - 1) default = x) (D : List Sm) (hs : s = setL D) : s.take k ++ [x] ++ s.drop k = setL (D ++ [x]) := by
  subst hs
  have hsr := setL_srt D
  have hlt : ∀ y ∈ (setL D).take k, cmpL y.l x.l < 0 := by
    intro y hy
    obtain ⟨j, hj, rfl⟩ := mem_get.1 hy
    rw [List.length_take] at hj
    have e : ((setL D).take k).getD j default = (setL D).getD j default := by
      simp only [List.getD, List.getElem?_take]
      rw [if_pos (by omega)]
    rw [e]
    have hk0 : ¬ k = 0 := by omega
    have a1 := hlo.resolve_left hk0
    have a2 := hne.resolve_left hk0
    have a3 : ¬ cmpL ((setL D).getD (k - 1) default).l x.l = 0 := fun h => a2 (cmp_zero.1 h)
    by_cases hjk : j = k - 1
    · subst hjk; omega
    · have a4 := lt_get hsr (i := j) (j := k - 1) (by omega) (by omega)
      exact cmp_lt_trans (Int.le_of_lt a4) (by omega) (.inl a4)
  have hgt : ∀ y ∈ (setL D).drop k, cmpL x.l y.l < 0 := by
    intro y hy
    obtain ⟨j, hj, rfl⟩ := mem_get.1 hy
    rw [List.length_drop] at hj
    rw [getD_drop]
    have a1 := hhi (k + j) (by omega) (by omega)
    have := cmpL_swap ((setL D).getD (k + j) default).l x.l
    omega
  refine srt_ext ?_ (setL_srt _) fun z => ?_
  · rw [List.append_assoc]
    refine List.pairwise_append.2 ⟨List.Pairwise.sublist (List.take_sublist _ _) hsr, List.pairwise_cons.2 ⟨hgt, List.Pairwise.sublist (List.drop_sublist _ _) hsr⟩, fun a ha b hb => ?_⟩
    rcases List.mem_cons.1 hb with rfl | hb
    · exact hlt a ha
    · have h1 := hlt a ha
      have h2 := hgt b hb
      exact cmp_lt_trans (by omega) (by omega) (.inl h1)
  · rw [setL_mem, List.mem_append, List.mem_append, List.mem_append, List.mem_singleton, ← setL_mem D z]
    constructor
    · rintro ((h | h) | h)
      · exact .inl (List.mem_of_mem_take h)
      · exact .inr h
      · exact .inl (List.mem_of_mem_drop h)
    · rintro (h | h)
      · rw [← List.take_append_drop k (setL D), List.mem_append] at h
        rcases h with h | h
        · exact .inl (.inl h)
        · exact .inr h
      · exact .inl (.inr h)
theorem infoR1 : (Tryd.prog.info? 112).map (fun i => (i.zero, i.size, i.bytes)) = some (some (.agg (u8s (List.replicate 32 0))), 32, 32) := by kernel_rfl
theorem flat_l1 (x : Sm) : (([.agg (u8s x.l)] : List Value).map fun v => v.cells.toList).flatten = flat [x] := flat_cells [x]
theorem oBuildSum1 {P : Program} {w0 : World} {Γ : Ctx} {o : Oper} {t e : TypeId} {z : Value} {bytes : Nat} {x : Sm} {y : Operand} (ho : o.op = .buildSlice t 1 #[(0, y)]) (hy : OpT Γ y (Ty.ex (.agg (u8s x.l)))) (hu : P.underlying t = some (.slice e)) (hi : (P.info? e).map (fun i => (i.zero, i.size, i.bytes)) = some (some z, 32, bytes)) : OpO P w0 Γ o (OTy.seg w0 e 32 1 (flat [x])) := by
  have h := oBuild (P := P) (w0 := w0) (Γ := Γ) (vs := [.agg (u8s x.l)]) ho (parts1v ho hy) hu hi rfl (cells_sums [x]) (by decide) (by simp [maxLen])
  rwa [flat_l1] at h
theorem seg_news {w0 w : World} {e : TypeId} {sz m : Nat} {news : List Value} : ∀ u, (Ty.seg w0 e sz m news).p w u → ∃ A c, u = .slice A m c ∧ (A = none → m = 0) ∧ Rd w A news := fun u h => sl_news u (seg_sl _ _ h)
set_option maxRecDepth 100000 in
set_option maxHeartbeats 4000000 in
theorem r10of_ty (D : List Sm) (hD : D.length ≤ 1000000) : FnSeg1 Tryd.prog 60 (Ty.sums 112 D) 112 32 (setL D).length (flat (setL D)) := by
  refine ⟨fun args w => by kernel_rfl, fun w v hv => ?_⟩
  refine enter_ty 61 [Ty.ex v] Tryd.func60 rfl (by kernel_rfl) ⟨rfl, trivial⟩ fun a hF => ?_
  have hB := Below.refl w.heap.size w
  let TD := Ty.sums 112 D
  repeat with_reducible refine wp_seq ?_
  refine' reg_all hF ?_ mixed (by kernel_rfl) ?_
  rotate_left
  · repeat (first | exact Line.nil | ((refine' Line.cons rfl (.run rfl rfl ?_) ?_); (any_goals exact cAssign rfl rfl); rotate_left))
  intro a w1 hF hb hN
  have hBs := hB.size
  replace hB := hB.trans (hb.mono hB.size)
  dsimp only [ext, Option.getD] at hF
  repeat with_reducible first | refine wp_seq ?_ | refine nThen ?_
  refine' reg_all hF ?_ mixed (by kernel_rfl) ?_
  rotate_left
  · repeat (first | exact Line.nil | ((refine' Line.cons rfl (.run rfl rfl ?_) ?_); (any_goals exact cAssign rfl rfl); rotate_left))
  intro a w2 hF hb hN
  have hBs := hB.size
  replace hB := hB.trans (hb.mono hB.size)
  dsimp only [ext, Option.getD] at hF
  repeat with_reducible first | refine wp_seq ?_ | refine nThen ?_
  refine' reg_all hF ?_ mixed (by kernel_rfl) ?_
  rotate_left
  · repeat (first | exact Line.nil | ((refine' Line.cons rfl (.run rfl rfl ?_) ?_); (any_goals exact cAssign rfl rfl); rotate_left))
  intro a w3 hF hb hN
  have hBs := hB.size
  replace hB := hB.trans (hb.mono hB.size)
  dsimp only [ext, Option.getD] at hF
  repeat with_reducible first | refine nThen ?_ | refine wp_block ?_
  refine loop_ty (fun m a wr => ∃ (i : Nat) (u : Value) (S : List Nat), i + m = D.length ∧ Fr 61 [(0, Ty.ex v), (3, Ty.ex u), (4, Ty.ex (.int .i64 (i : Int)))] a wr ∧ Below w.heap.size w wr ∧ Seg wr 112 32 u (setL (D.take i)).length (flat (setL (D.take i))) S ∧ ∀ y ∈ S, w.heap.size ≤ y) D.length ?_ ?_
  · exact ⟨0, _, [], by omega, hF.keep [0, 3, 4], hB, Seg.nil _ _ _, by simp⟩
  clear hF hB
  rintro m a wr ⟨i, u, S, hi, hF, hB, hseg, hS⟩
  have hvr := TD.below hv hB
  repeat with_reducible refine wp_seq ?_
  refine' reg_all hF ?_ mixed (by kernel_rfl) ?_
  rotate_left
  · repeat (first | exact Line.nil | ((refine' Line.cons rfl (.run rfl rfl ?_) ?_); (any_goals (first | exact cMove rfl rfl | exact cLenH rfl (.l rfl hvr) (Ty.sl_isSl _ _ _) Tryd.underlying75 | exact cLss rfl rfl rfl)); rotate_left))
  intro a w4 hF hb hN
  have hBs := hB.size
  replace hB := hB.trans (hb.mono hB.size)
  dsimp only [ext, Option.getD] at hF
  repeat with_reducible refine nThen ?_
  replace hseg := hseg.below hb
  replace hvr := TD.below hvr hb
  refine cond_ty hF rfl (fun hlt => ?_) (fun hge => ?_)
  rotate_left
  · have hge : ¬ i < D.length := by have := of_decide_eq_false hge; omega
    obtain rfl : i = D.length := by omega
    rw [List.take_length] at hseg
    repeat with_reducible first | refine wp_seq ?_ | refine nThen ?_ | refine wp_exit ?_ | refine xThen ?_ | refine xHere ?_
    refine' reg_all hF ?_ mixed (by kernel_rfl) ?_
    rotate_left
    · repeat (first | exact Line.nil | ((refine' Line.cons rfl (.run rfl rfl ?_) ?_); (any_goals (first | exact cMove rfl rfl | exact cAssign rfl rfl)); rotate_left))
    intro a w5 hF hb hN
    have hBs := hB.size
    replace hB := hB.trans (hb.mono hB.size)
    dsimp only [ext, Option.getD] at hF
    repeat with_reducible first | refine nThen ?_ | refine wp_ret ?_
    refine ret1 hF rfl rfl fun z hz => ?_
    have hz : z = u := hz
    subst hz
    exact ⟨z, rfl, ⟨S, hseg.below hb, hS⟩, hB⟩
  have hlt : i < D.length := by have := of_decide_eq_true hlt; omega
  have htk : D.take (i + 1) = D.take i ++ [D.getD i default] := take_snoc' D hlt
  obtain ⟨s, hs⟩ : ∃ s, s = setL (D.take i) := ⟨_, rfl⟩
  obtain ⟨x, hx⟩ : ∃ x, x = D.getD i default := ⟨_, rfl⟩
  have hsl : s.length ≤ 1000000 := by rw [hs]; exact Nat.le_trans (setL_len _) (by rw [List.length_take]; omega)
  rw [← hs] at hseg
  rw [← hx] at htk
  obtain ⟨A, c, rfl, hnc, hcm, hrd, _, hAn⟩ := hseg.form
  obtain ⟨Av, cv, rfl, hvn, hvc, hvA⟩ := hvr.form
  obtain ⟨gv, ov, rfl, hel⟩ := SlP.elem hvr (k := i * 32) (by rw [flat_len]; omega)
  have hxe : (Ty.at_ 112 x.enc).p w4 (.pointer (some ⟨gv, ov + i * 32, none⟩)) := by
    have h := hel (i * 32)
    rw [flat_at D hlt, ← hx] at h
    obtain ⟨g, off, cs, fr, h1, h2, h3⟩ := h
    exact ⟨g, off, cs, fr, h1, h2, fun j u hu => h3 j u (by rw [List.getElem?_append_left (List.getElem?_eq_some_iff.1 hu).1]; exact hu)⟩
  have hss : (Ty.sums 112 s).p w4 (.slice A s.length c) := hseg.sl
  repeat with_reducible first | refine wp_seq ?_ | refine nThen ?_ | refine wp_skip ?_ | refine wp_block ?_
  refine' reg_all hF ?_ mixed (by kernel_rfl) ?_
  rotate_left
  · repeat (first | exact Line.nil | ((refine' Line.cons rfl (.run rfl rfl ?_) ?_); (any_goals (first | exact cMove rfl rfl | exact cAssign rfl rfl | exact cLenEx rfl rfl Tryd.underlying76)); rotate_left))
  intro a w5 hF hb hN
  have hBs := hB.size
  replace hB := hB.trans (hb.mono hB.size)
  dsimp only [ext, Option.getD] at hF
  repeat with_reducible first | refine wp_seq ?_ | refine nThen ?_ | refine wp_block ?_
  replace hseg := hseg.below hb
  replace hvr := TD.below hvr hb
  replace hxe := (Ty.at_ 112 x.enc).below hxe hb
  refine wp_mono (Q := fun e a wr => e = .exit 2 ∧ ∃ k : Nat, k ≤ s.length ∧ Fr 61 [(0, Ty.ex (.slice (some ⟨gv, ov, none⟩) D.length cv)), (3, Ty.ex (.slice A s.length c)), (4, Ty.ex (.int .i64 (i : Int))), (5, Ty.ex (.int .i64 (k : Int)))] a wr ∧ Below w.heap.size w wr ∧ Seg wr 112 32 (.slice A s.length c) s.length (flat s) S ∧ TD.p wr (.slice (some ⟨gv, ov, none⟩) D.length cv) ∧ (Ty.at_ 112 x.enc).p wr (.pointer (some ⟨gv, ov + i * 32, none⟩)) ∧ (∀ j, k ≤ j → j < s.length → 0 < cmpL (s.getD j default).l x.l) ∧ (k = 0 ∨ ¬ 0 < cmpL (s.getD (k - 1) default).l x.l)) ?_ ?_
  · refine loop_ty (fun m a wr => ∃ k : Nat, k = m ∧ k ≤ s.length ∧ Fr 61 [(0, Ty.ex (.slice (some ⟨gv, ov, none⟩) D.length cv)), (3, Ty.ex (.slice A s.length c)), (4, Ty.ex (.int .i64 (i : Int))), (5, Ty.ex (.int .i64 (k : Int)))] a wr ∧ Below w.heap.size w wr ∧ Seg wr 112 32 (.slice A s.length c) s.length (flat s) S ∧ TD.p wr (.slice (some ⟨gv, ov, none⟩) D.length cv) ∧ (Ty.at_ 112 x.enc).p wr (.pointer (some ⟨gv, ov + i * 32, none⟩)) ∧ ∀ j, k ≤ j → j < s.length → 0 < cmpL (s.getD j default).l x.l) s.length ?_ ?_
    · exact ⟨s.length, rfl, Nat.le_refl _, hF.keep [0, 3, 4, 5], hB, hseg, hvr, hxe, fun j hj hj2 => by omega⟩
    clear hF hB hb hBs hseg hvr hxe hss hel hrd hv
    rintro m a wr ⟨k, rfl, hk, hF, hB, hseg, hvr, hxr, hhi⟩
    have hsr : (Ty.sums 112 s).p wr (.slice A s.length c) := hseg.sl
    repeat with_reducible refine wp_seq ?_
    by_cases hk0 : k = 0
    · subst hk0
      refine' reg_all hF ?_ mixed (by kernel_rfl) ?_
      rotate_left
      · repeat (first | exact Line.nil | (refine' Line.cons rfl (.no rfl rfl rfl rfl rfl rfl) ?_; rotate_left) | ((refine' Line.cons rfl (.run rfl rfl ?_) ?_); (any_goals (first | exact cMove rfl rfl | exact OpOk.b (c := false) (cGtr rfl rfl rfl) rfl | exact cPickF rfl rfl rfl)); rotate_left))
      intro a w5 hF hb hN
      have hBs := hB.size
      replace hB := hB.trans (hb.mono hB.size)
      dsimp only [ext, Option.getD] at hF
      repeat with_reducible refine nThen ?_
      refine cond_f hF rfl ?_
      repeat with_reducible first | refine wp_exit ?_ | refine xThen ?_
      exact ⟨rfl, 0, hk, hF.keep [0, 3, 4, 5], hB, hseg.below hb, TD.below hvr hb, (Ty.at_ 112 x.enc).below hxr hb, hhi, .inl rfl⟩
    · refine' reg_all hF ?_ mixed (by kernel_rfl) ?_
      rotate_left
      · repeat (first | exact Line.nil | ((first | refine' Line.cons rfl (.run rfl rfl ?_) ?_ | refine' Line.cons rfl (.yes rfl rfl rfl rfl ?_) ?_); (any_goals (first | exact cMove rfl rfl | exact OpOk.b (c := true) (cGtr rfl rfl rfl) (decide_eq_true (by omega)) | exact cSub (r := ((k - 1 : Nat) : Int)) rfl rfl rfl (by omega) | exact cIndexEx (k := i) (sz := 32) rfl rfl rfl Tryd.underlying75 sizeR hlt | exact cIndexSum (k := k - 1) rfl (.l rfl hsr) rfl Tryd.underlying76 sizeR (by omega) | exact cLoadSum rfl (.l rfl hxr) Tryd.underlying112 sizeR | exact cLoadSum rfl (.t rfl) Tryd.underlying112 sizeR | exact cCall2 rfl rfl rfl (r1cmp_ty _ _) | exact cPickT rfl rfl rfl | exact cGtr rfl rfl rfl)); rotate_left))
      intro a w5 hF hb hN
      have hBs := hB.size
      replace hB := hB.trans (hb.mono hB.size)
      dsimp only [ext, Option.getD] at hF
      repeat with_reducible refine nThen ?_
      replace hseg := hseg.below hb
      replace hvr := TD.below hvr hb
      replace hxr := (Ty.at_ 112 x.enc).below hxr hb
      refine cond_ty hF rfl (fun hgt => ?_) (fun hle => ?_)
      · have hgt : 0 < cmpL (s.getD (k - 1) default).l x.l := of_decide_eq_true hgt
        repeat with_reducible first | refine nThen ?_ | refine wp_skip ?_ | refine wp_block ?_
        replace hseg := hseg.below (Below.refl _ _)
        refine' reg_all hF ?_ mixed (by kernel_rfl) ?_
        rotate_left
        · repeat (first | exact Line.nil | ((refine' Line.cons rfl (.run rfl rfl ?_) ?_); (any_goals (first | exact cMove rfl rfl | exact cAssign rfl rfl | exact cSub (r := ((k - 1 : Nat) : Int)) rfl rfl rfl (by omega))); rotate_left))
        intro a w6 hF hb hN
        have hBs := hB.size
        replace hB := hB.trans (hb.mono hB.size)
        dsimp only [ext, Option.getD] at hF
        repeat with_reducible first | refine nThen ?_ | refine nBlk ?_
        refine ⟨k - 1, by omega, k - 1, rfl, by omega, hF.keep [0, 3, 4, 5], hB, hseg.below hb, TD.below hvr hb, (Ty.at_ 112 x.enc).below hxr hb, fun j hj hj2 => ?_⟩
        by_cases hjk : k ≤ j
        · exact hhi j hjk hj2
        · obtain rfl : j = k - 1 := by omega
          exact hgt
      · have hle : ¬ 0 < cmpL (s.getD (k - 1) default).l x.l := of_decide_eq_false hle
        repeat with_reducible first | refine wp_exit ?_ | refine xThen ?_
        exact ⟨rfl, k, hk, hF.keep [0, 3, 4, 5], hB, hseg, hvr, hxr, hhi, .inr hle⟩
  clear hF hB hb hBs hseg hvr hxe hss hel hrd hv
  rintro e a wr ⟨rfl, k, hk, hF, hB, hseg, hvr, hxr, hhi, hlo⟩
  have hsr : (Ty.sums 112 s).p wr (.slice A s.length c) := hseg.sl
  repeat with_reducible first | refine wp_seq ?_ | refine nThen ?_ | refine xHere ?_
  -- is it there?
  refine wp_mono (Q := fun e a wr => e = .normal ∧ Fr 61 [(0, Ty.ex (.slice (some ⟨gv, ov, none⟩) D.length cv)), (3, Ty.ex (.slice A s.length c)), (4, Ty.ex (.int .i64 (i : Int))), (5, Ty.ex (.int .i64 (k : Int))), (44, Ty.ex (.bool (decide (0 < k ∧ s.getD (k - 1) default = x))))] a wr ∧ Below w.heap.size w wr ∧ Seg wr 112 32 (.slice A s.length c) s.length (flat s) S ∧ TD.p wr (.slice (some ⟨gv, ov, none⟩) D.length cv) ∧ (Ty.at_ 112 x.enc).p wr (.pointer (some ⟨gv, ov + i * 32, none⟩))) ?_ ?_
  · by_cases hk0 : k = 0
    · subst hk0
      refine' reg_all hF ?_ mixed (by kernel_rfl) ?_
      rotate_left
      · repeat (first | exact Line.nil | (refine' Line.cons rfl (.no rfl rfl rfl rfl rfl rfl) ?_; rotate_left) | ((refine' Line.cons rfl (.run rfl rfl ?_) ?_); (any_goals (first | exact cMove rfl rfl | exact OpOk.b (c := false) (cGtr rfl rfl rfl) rfl | exact cPickF rfl rfl rfl)); rotate_left))
      intro a w5 hF hb hN
      have hBs := hB.size
      replace hB := hB.trans (hb.mono hB.size)
      dsimp only [ext, Option.getD] at hF
      exact ⟨rfl, hF.keep [0, 3, 4, 5, 44], hB, hseg.below hb, TD.below hvr hb, (Ty.at_ 112 x.enc).below hxr hb⟩
    · have e : decide (0 < k ∧ s.getD (k - 1) default = x) = decide (s.getD (k - 1) default = x) := by
        rw [decide_eq_decide]
        exact ⟨fun h => h.2, fun h => ⟨by omega, h⟩⟩
      rw [e]
      refine' reg_all hF ?_ mixed (by kernel_rfl) ?_
      rotate_left
      · repeat (first | exact Line.nil | ((first | refine' Line.cons rfl (.run rfl rfl ?_) ?_ | refine' Line.cons rfl (.yes rfl rfl rfl rfl ?_) ?_); (any_goals (first | exact cMove rfl rfl | exact OpOk.b (c := true) (cGtr rfl rfl rfl) (decide_eq_true (by omega)) | exact cSub (r := ((k - 1 : Nat) : Int)) rfl rfl rfl (by omega) | exact cIndexEx (k := i) (sz := 32) rfl rfl rfl Tryd.underlying75 sizeR hlt | exact cIndexSum (k := k - 1) rfl (.l rfl hsr) rfl Tryd.underlying76 sizeR (by omega) | exact cLoadSum rfl (.l rfl hxr) Tryd.underlying112 sizeR | exact cLoadSum rfl (.t rfl) Tryd.underlying112 sizeR | exact cEqlAgg rfl rfl rfl guardR (fun w => eqlR _ _ w) | exact cPickT rfl rfl rfl)); rotate_left))
      intro a w5 hF hb hN
      have hBs := hB.size
      replace hB := hB.trans (hb.mono hB.size)
      dsimp only [ext, Option.getD] at hF
      exact ⟨rfl, hF.keep [0, 3, 4, 5, 44], hB, hseg.below hb, TD.below hvr hb, (Ty.at_ 112 x.enc).below hxr hb⟩
  clear hF hB hseg hvr hxr hsr
  rintro e a wr ⟨rfl, hF, hB, hseg, hvr, hxr⟩
  repeat with_reducible refine nThen ?_
  refine cond_ty hF rfl (fun hth => ?_) (fun hno => ?_)
  · have hth := of_decide_eq_true hth
    have e : s = setL (D.take (i + 1)) := by rw [htk]; exact ins_same hk hth.1 hth.2 _ hs
    rw [e] at hseg
    repeat with_reducible first | refine nThen ?_ | refine wp_exit ?_ | refine xThen ?_ | refine xHere ?_
    rw [e] at hF
    refine' reg_all hF ?_ mixed (by kernel_rfl) ?_
    rotate_left
    · repeat (first | exact Line.nil | ((refine' Line.cons rfl (.run rfl rfl ?_) ?_); (any_goals (first | exact cMove rfl rfl | exact cAssign rfl rfl | exact cAdd (r := ((i + 1 : Nat) : Int)) rfl rfl rfl (by omega))); rotate_left))
    intro a w6 hF hb hN
    have hBs := hB.size
    replace hB := hB.trans (hb.mono hB.size)
    dsimp only [ext, Option.getD] at hF
    repeat with_reducible refine nThen ?_
    refine ⟨m - 1, by omega, i + 1, .slice A (setL (D.take (i + 1))).length c, S, by omega, hF.keep [0, 3, 4], hB, hseg.below hb, hS⟩
  have hno := of_decide_eq_false hno
  have e : s.take k ++ [x] ++ s.drop k = setL (D.take (i + 1)) := by
    rw [htk]
    refine ins_new hk hhi hlo ?_ _ hs
    by_cases hk0 : k = 0
    · exact .inl hk0
    · exact .inr fun h => hno ⟨by omega, h⟩
  have hwr : w.heap.size ≤ wr.heap.size := hB.size
  have hsr : (Ty.sums 112 s).p wr (.slice A s.length c) := hseg.sl
  have h48 : (Ty.sl 112 k (flat (s.take k))).p wr (.slice A k c) := by rw [← flat_take]; exact SlP.takeA hsr hk _
  have h58 : (Ty.sl 112 (s.length - k) (flat (s.drop k))).p wr (.slice (if c = k then A else A.map (·.add (k * 32))) (s.length - k) (c - k)) := by rw [← flat_drop]; exact SlP.dropA hsr hk (flat_len s)
  have l1 : (flat (s.take k)).length = k * 32 := by rw [flat_len, List.length_take, Nat.min_eq_left hk]
  have l2 : (flat [x]).length = 1 * 32 := by rw [flat_len]; rfl
  have l3 : (flat (s.drop k)).length = (s.length - k) * 32 := by rw [flat_len, List.length_drop]
  repeat with_reducible first | refine nThen ?_ | refine wp_skip ?_
  refine' region_own 15 [(4, 45), (10, 49), (14, 55)] mixed (by kernel_rfl) hF ?_ ?_
  rotate_left
  · simp only [List.take_succ_cons, List.take_zero]
    repeat (first
        | exact LineO.nil
        | (refine' LineO.cons rfl rfl (.no rfl rfl rfl rfl rfl) ?_; rotate_left)
        | ((first | refine' LineO.cons rfl rfl (.run rfl ?_) ?_ | refine' LineO.cons rfl rfl (.yes rfl rfl rfl ?_) ?_)
           any_goals (first | exact .ex (cMove rfl rfl) | exact oBuild0 rfl Tryd.underlying76 infoR1 | exact .ex (cSliceHiA rfl rfl rfl Tryd.underlying76 sizeR hk hnc (fun h => (hAn h).2)) | exact .ex (cIndexEx (k := i) (sz := 32) rfl rfl rfl Tryd.underlying75 sizeR hlt) | exact .ex (cLoadSum rfl (.l rfl hxr) Tryd.underlying112 sizeR) | exact oBuildSum1 (x := x) rfl rfl Tryd.underlying76 infoR1 | exact .ex (cSliceLoA (k := k) rfl rfl rfl Tryd.underlying76 sizeR hk))
           rotate_left)
        | ((first | refine' LineO.take rfl rfl rfl (.run rfl ?_) ?_ | refine' LineO.take rfl rfl rfl (.yes rfl rfl rfl ?_) ?_)
           any_goals (first | exact tkAppend (m := k) (news := flat (s.take k)) rfl Tryd.underlying76 infoR1 zero32_size (.l rfl h48) sl_news l1 flat_one' (by simp [maxLen]; omega) (by omega) | exact tkAppend (m := 1) (news := flat [x]) rfl Tryd.underlying76 infoR1 zero32_size (.t rfl) seg_news l2 flat_one' (by simp [maxLen]; omega) (by omega) | exact tkAppend (m := s.length - k) (news := flat (s.drop k)) rfl Tryd.underlying76 infoR1 zero32_size (.l rfl h58) sl_news l3 flat_one' (by simp [maxLen]; omega) (by omega))
           rotate_left))
  intro a w6 hF hb hN
  have hBs := hb.size
  replace hB := hB.trans (hb.mono hB.size)
  simp only [List.take_succ_cons, List.take_zero, List.drop_succ_cons, List.drop_zero] at hF hN ⊢
  dsimp only [hideT, List.foldr, extO, Option.getD, OTy.ex, OTy.seg, OTy.slo, OTy.var] at hF
  replace hvr := TD.below hvr hb
  obtain ⟨u, ⟨S', hsg, hS'⟩, hF⟩ := hF.open (s := 59) rfl
  have en : 0 + k + 1 + (s.length - k) = (setL (D.take (i + 1))).length := by rw [← e]; simp; omega
  have ex : [] ++ flat (s.take k) ++ flat [x] ++ flat (s.drop k) = flat (setL (D.take (i + 1))) := by rw [← e, flat_append, flat_append, List.nil_append]
  rw [en, ex] at hsg
  refine' tlOp hF rfl rfl rfl ?_ ?_
  rotate_left
  · exact cAssign rfl rfl
  intro a w7 hF hb
  have hBs := hB.size
  replace hB := hB.trans (hb.mono hB.size)
  try (refine wpList_nil ?_)
  repeat with_reducible first | refine nThen ?_ | refine nBlk ?_
  replace hsg := hsg.below hb
  refine' reg_all hF ?_ mixed (by kernel_rfl) ?_
  rotate_left
  · repeat (first | exact Line.nil | ((refine' Line.cons rfl (.run rfl rfl ?_) ?_); (any_goals (first | exact cMove rfl rfl | exact cAssign rfl rfl | exact cAdd (r := ((i + 1 : Nat) : Int)) rfl rfl rfl (by omega))); rotate_left))
  intro a w8 hF hb hN
  have hBs := hB.size
  replace hB := hB.trans (hb.mono hB.size)
  dsimp only [ext, Option.getD] at hF
  repeat with_reducible refine nThen ?_
  exact ⟨m - 1, by omega, i + 1, u, S', by omega, hF.keep [0, 3, 4], hB, hsg.below hb, fun y hy => Nat.le_trans hwr (hS' y hy)⟩
end Go.Proofs.YtgmeagkolahkoaaDoor

/- Layer 15 by types: TableOrder. -/
namespace Go.Proofs.YtgmeagkolahkoaaDoor
open Go.RowKit

theorem tblk_at {w : World} {g : Nat} {T : TypeId} {u s : Value} (h : Blk w g T #[u, s]) : (Ty.at_ T [u, s]).p w (.pointer (some ⟨g, 0, none⟩)) := ⟨g, 0, _, (0, 0), rfl, h, fun j u h => by simpa using h⟩
/-- The row begun elsewhere. -/
def turned (X : List Sm) (r : Nat) : List Sm := X.drop r ++ X.take r
section
variable {P : Program} {ops : Array Oper} {Q : Exit → Act → World → Prop} {N : Nat} {Γ : Ctx} {a : Act} {w : World} {o1 o2 : Oper} {rest : List Oper}
end
end Go.Proofs.YtgmeagkolahkoaaDoor

/- The document's Peel, by types. -/
namespace Go.Proofs.YtgmeagkolahkoaaDoor
open Go.RowKit

section
variable {P : Program} {w0 : World} {Γ : Ctx} {o : Oper}
/-- A value is laid into a block of the call's own. -/
theorem cBoxVar {t : TypeId} {x : Operand} {v : Value} (ho : o.op = .box t x) (hx : OpT Γ x (Ty.ex v)) : OpOk P w0 Γ o (Ty.var w0 t v.cells) :=
  .new fun a w hb hs => by
    obtain ⟨u, h1, h2⟩ := hs x _ (by simp [ho, Op.operands]) hx
    have h2 : u = v := h2
    subst h2
    refine ⟨.pointer (some ⟨w.heap.size, 0, none⟩), w.alloc (.cells u.cells t), ⟨w.heap.size, rfl, hb.size, Blk.new w _ _⟩, ((Keeps.refl [] w).alloc (.cells u.cells t)).below, ?_⟩
    unfold execOp
    simp only [ho, h1]
    simp [Instr.box, newVar, newRow, go_sem]
end
theorem at5R {W : World} {g : Nat} {x : Sm} (h : Blk W g 112 (u8s x.l)) : (Ty.at_ 112 x.enc).p W (.pointer (some ⟨g, 0, none⟩)) := by
  have h := blk_at h
  rwa [u8s_list] at h
/-- The state of the document's peeling. -/
structure RPeel (w wr : World) (g1 g2 seed : Nat) (s p q : Value) (st : Pst) (Sp Sq : List Nat) : Prop where
  blk : Blk wr g1 72 #[.int .u64 (seed : Int), s]
  res : Blk wr g2 ResTR #[nilS, nilS, .int .u64 0, nilS]
  tab : (Ty.cls 114 st.L).p wr s
  plus : Seg wr 112 32 p st.plus.length (flat st.plus) Sp
  minus : Seg wr 112 32 q st.minus.length (flat st.minus) Sq
  own1 : w.heap.size ≤ g1
  own2 : w.heap.size ≤ g2
  ownp : ∀ y ∈ Sp, w.heap.size ≤ y
  ownq : ∀ y ∈ Sq, w.heap.size ≤ y
  apart : ∀ y ∈ Sp, y ∉ Sq
theorem RPeel.below {w wr w' : World} {g1 g2 seed : Nat} {s p q : Value} {st : Pst} {Sp Sq : List Nat} (h : RPeel w wr g1 g2 seed s p q st Sp Sq) (hb : Below wr.heap.size wr w') : RPeel w w' g1 g2 seed s p q st Sp Sq :=
  ⟨h.blk.below hb, h.res.below hb, (Ty.cls 114 st.L).below h.tab hb, h.plus.below hb, h.minus.below hb, h.own1, h.own2, h.ownp, h.ownq, h.apart⟩
section
variable {w wr w' : World} {g1 g2 seed : Nat} {s s' p q p' : Value} {st : Pst} {Sp Sq S' : List Nat} {x : Sm} {L' : List Cl} {o : Bool}
theorem RPeel.app_p (h : RPeel w wr g1 g2 seed s p q st Sp Sq) (k : Keeps Sp wr w') (hs : Seg w' 112 32 p' (st.plus.length + 1) (flat (st.plus ++ [x])) S') (hS : S' = Sp ∨ S' = [wr.heap.size]) (hw : w.heap.size ≤ wr.heap.size) : RPeel w w' g1 g2 seed s p' q ⟨st.L, st.plus ++ [x], st.minus, o⟩ S' Sq := by
  refine ⟨h.blk.keeps k (blk_apart h.plus h.blk (by decide)), h.res.keeps k (blk_apart h.plus h.res (by decide)), (Ty.cls 114 st.L).keepSeg h.tab k h.plus rfl, ?_, h.minus.keeps k (fun y hy hm => h.apart y hm hy), h.own1, h.own2, fun y hy => ?_, h.ownq, fun y hy hm => ?_⟩
  · rwa [show (st.plus ++ [x]).length = st.plus.length + 1 by simp]
  · rcases hS with rfl | rfl
    · exact h.ownp y hy
    · simp only [List.mem_singleton] at hy; omega
  · rcases hS with rfl | rfl
    · exact h.apart y hy hm
    · have := h.minus.lt y hm
      simp only [List.mem_singleton] at hy; omega
theorem RPeel.app_q (h : RPeel w wr g1 g2 seed s p q st Sp Sq) (k : Keeps Sq wr w') (hs : Seg w' 112 32 p' (st.minus.length + 1) (flat (st.minus ++ [x])) S') (hS : S' = Sq ∨ S' = [wr.heap.size]) (hw : w.heap.size ≤ wr.heap.size) : RPeel w w' g1 g2 seed s p p' ⟨st.L, st.plus, st.minus ++ [x], o⟩ Sp S' := by
  refine ⟨h.blk.keeps k (blk_apart h.minus h.blk (by decide)), h.res.keeps k (blk_apart h.minus h.res (by decide)), (Ty.cls 114 st.L).keepSeg h.tab k h.minus rfl, h.plus.keeps k (fun y hy hm => h.apart y hy hm), ?_, h.own1, h.own2, h.ownp, fun y hy => ?_, fun y hy hm => ?_⟩
  · rwa [show (st.minus ++ [x]).length = st.minus.length + 1 by simp]
  · rcases hS with rfl | rfl
    · exact h.ownq y hy
    · simp only [List.mem_singleton] at hy; omega
  · rcases hS with rfl | rfl
    · exact h.apart y hy hm
    · have := h.plus.lt y hy
      simp only [List.mem_singleton] at hm; omega
theorem RPeel.put (h : RPeel w wr g1 g2 seed s p q st Sp Sq) (k : Keeps [g1] wr w') (hb : Blk w' g1 72 #[.int .u64 (seed : Int), s']) (ht : (Ty.cls 114 L').p w' s') : RPeel w w' g1 g2 seed s' p q ⟨L', st.plus, st.minus, o⟩ Sp Sq :=
  ⟨hb, h.res.keeps k (by simpa using h.res.ne h.blk (by decide)), ht, h.plus.keeps k (seg_far h.plus h.blk (by decide)), h.minus.keeps k (seg_far h.minus h.blk (by decide)), h.own1, h.own2, h.ownp, h.ownq, h.apart⟩
end
set_option maxRecDepth 100000 in
set_option maxHeartbeats 8000000 in
theorem rpeel_ty (seed : Nat) (L : List Cl) (hsd : seed < 18446744073709551616) : Fn1 Tryd.prog 28 (Ty.tab 114 seed L) (Ty.tup [Ty.resR (resP seed L) (resM seed L) (resS seed L) (resL seed L), Ty.ex (.int .i64 (resN seed L))]) := by
  refine ⟨fun args w => by kernel_rfl, fun w v ⟨s, hv, hs⟩ => ?_⟩
  subst hv
  have hG := goodCells_ty (L.length : Int)
  refine enter_ty 76 [Ty.ex (.agg #[.int .u64 (seed : Int), s])] Tryd.func28 rfl (by kernel_rfl) ⟨rfl, trivial⟩ fun a hF => ?_
  have hB := Below.refl w.heap.size w
  let TL := Ty.cls 114 L
  repeat with_reducible refine wp_seq ?_
  refine' reg_all hF ?_ mixed (by kernel_rfl) ?_
  rotate_left
  · repeat (first
        | exact Line.nil
        | (refine' Line.cons rfl (.new rfl rfl (run_alloc_i infoResR) rfl) ?_; rotate_left)
        | ((refine' Line.cons rfl (.run rfl rfl ?_) ?_)
           any_goals (first | exact cAssign rfl rfl | exact cBoxVar rfl rfl)
           rotate_left))
  intro a w1 hF hb hN
  have hBs := hB.size
  replace hB := hB.trans (hb.mono hB.size)
  dsimp only [ext, Option.getD] at hF
  repeat with_reducible first | refine wp_seq ?_ | refine nThen ?_
  obtain ⟨z, ⟨g2, rfl, hg2, hb2⟩, hF⟩ := hF.open (s := 2) rfl
  have hg2 : w.heap.size ≤ g2 := hg2
  obtain ⟨z, ⟨g1, rfl, hg1, hb1⟩, hF⟩ := hF.open (s := 1) rfl
  have hg1 : w.heap.size ≤ g1 := hg1
  replace hb1 : Blk w1 g1 72 #[.int .u64 (seed : Int), s] := by
    have e : (Value.agg #[.int .u64 (seed : Int), s]).cells = #[.int .u64 (seed : Int), s] := rfl
    rwa [e] at hb1
  have hs1 := TL.below hs hB
  have hat := tblk_at hb1
  by_cases hok : goodN (L.length : Int) = true
  rotate_left
  · have hok : goodN (L.length : Int) = false := by simpa using hok
    have hpk : peelOk seed L = false := by unfold peelOk; rw [hok]; rfl
    rw [show resP seed L = [] by unfold resP; rw [hpk]; rfl, show resM seed L = [] by unfold resM; rw [hpk]; rfl, show resS seed L = 0 by unfold resS; rw [hok]; rfl, show resL seed L = [] by unfold resL; rw [hok]; rfl, show resN seed L = 1 by unfold resN; rw [hok]; rfl]
    rw [hok] at hG
    refine' reg_all hF ?_ mixed (by kernel_rfl) ?_
    rotate_left
    · repeat (first | exact Line.nil | ((refine' Line.cons rfl (.run rfl rfl ?_) ?_); (any_goals (first | exact cNot rfl rfl | exact cFldL83 rfl (.l rfl hat) | exact cRowOf83 rfl (.t rfl) | exact cLenH rfl (.l rfl hs1) (Ty.sl_isSl _ _ _) Tryd.underlying70 | exact cCall1 rfl rfl hG)); rotate_left))
    intro a w2 hF hb hN
    have hBs := hB.size
    replace hB := hB.trans (hb.mono hB.size)
    dsimp only [ext, Option.getD] at hF
    repeat with_reducible refine nThen ?_
    refine cond_t hF rfl ?_
    repeat with_reducible refine wp_seq ?_
    replace hb2 := hb2.below hb
    refine' region_ty 1 mixed (by kernel_rfl) hF ?_ ?_
    rotate_left
    · simp only [List.take_succ_cons, List.take_zero]
      repeat (first | exact Line.nil | ((refine' Line.cons rfl (.run rfl rfl ?_) ?_); (any_goals exact cBuildE rfl (fun w => buildR0R w)); rotate_left))
    intro a w3 hF hb hN
    have hBs := hB.size
    replace hB := hB.trans (hb.mono hB.size)
    simp only [List.take_succ_cons, List.take_zero, List.drop_succ_cons, List.drop_zero] at hF hN ⊢
    dsimp only [ext, Option.getD] at hF
    replace hb2 := hb2.below hb
    refine tlStoreV (Δ := [(2, Ty.ex (.pointer (some ⟨g2, 0, none⟩)))]) hF rfl rfl rfl rfl (hF.getEx (s := 15) rfl) hb2 rfl sizeResR (by simp [Value.cells, Value.oneCell']) (hF.keep [2]) rfl ?_
    intro w4 hF hb2 hkx
    replace hB := below_own hB hkx (by intro y hy; simp only [List.mem_singleton] at hy; omega)
    refine' tlOp hF rfl rfl rfl ?_ ?_
    rotate_left
    · exact cAssign rfl rfl
    intro a w5 hF hb
    have hBs := hB.size
    replace hB := hB.trans (hb.mono hB.size)
    try (refine wpList_nil ?_)
    repeat with_reducible first | refine nThen ?_ | refine wp_ret ?_ | refine rThen ?_
    refine retCell2 hF rfl rfl rfl (hb2.below hb) Tryd.underlying78 rfl sizeResR ?_
    exact ⟨_, rfl, ⟨[_, _], rfl, ⟨nilS, nilS, nilS, rfl, sl_nil _ _, sl_nil _ _, sl_nil _ _⟩, rfl, trivial⟩, hB⟩
  rw [hok] at hG
  refine' reg_all hF ?_ mixed (by kernel_rfl) ?_
  rotate_left
  · repeat (first | exact Line.nil | ((refine' Line.cons rfl (.run rfl rfl ?_) ?_); (any_goals (first | exact cNot rfl rfl | exact cFldL83 rfl (.l rfl hat) | exact cRowOf83 rfl (.t rfl) | exact cLenH rfl (.l rfl hs1) (Ty.sl_isSl _ _ _) Tryd.underlying70 | exact cCall1 rfl rfl hG)); rotate_left))
  intro a w2 hF hb hN
  have hBs := hB.size
  replace hB := hB.trans (hb.mono hB.size)
  dsimp only [ext, Option.getD] at hF
  repeat with_reducible refine nThen ?_
  refine cond_f hF rfl ?_
  repeat with_reducible first | refine wp_seq ?_ | refine nThen ?_ | refine wp_skip ?_
  replace hb1 := hb1.below hb
  replace hb2 := hb2.below hb
  replace hs1 := TL.below hs1 hb
  obtain ⟨N, hN', hN1, hN2⟩ := goodN_rng hok
  have hLl : L.length ≤ 1024 := by omega
  have hM : RPeel w w2 g1 g2 seed s nilS nilS ⟨L, [], [], true⟩ [] [] := ⟨hb1, hb2, hs1, Seg.nil _ _ _, Seg.nil _ _ _, hg1, hg2, by simp, by simp, by simp⟩
  clear hat hs hb1 hb2 hs1 hG
  refine' reg_all hF ?_ mixed (by kernel_rfl) ?_
  rotate_left
  · repeat (first | exact Line.nil | ((refine' Line.cons rfl (.run rfl rfl ?_) ?_); (any_goals exact cAssign rfl rfl); rotate_left))
  intro a w3 hF hb hN
  have hBs := hB.size
  replace hB := hB.trans (hb.mono hB.size)
  dsimp only [ext, Option.getD] at hF
  repeat with_reducible first | refine wp_seq ?_ | refine nThen ?_
  replace hM := hM.below hb
  refine' reg_all hF ?_ mixed (by kernel_rfl) ?_
  rotate_left
  · repeat (first | exact Line.nil | ((refine' Line.cons rfl (.run rfl rfl ?_) ?_); (any_goals exact cAssign rfl rfl); rotate_left))
  intro a w4 hF hb hN
  have hBs := hB.size
  replace hB := hB.trans (hb.mono hB.size)
  dsimp only [ext, Option.getD] at hF
  repeat with_reducible first | refine wp_seq ?_ | refine nThen ?_
  replace hM := hM.below hb
  refine' reg_all hF ?_ mixed (by kernel_rfl) ?_
  rotate_left
  · repeat (first | exact Line.nil | ((refine' Line.cons rfl (.run rfl rfl ?_) ?_); (any_goals exact cAssign rfl rfl); rotate_left))
  intro a w5 hF hb hN
  have hBs := hB.size
  replace hB := hB.trans (hb.mono hB.size)
  dsimp only [ext, Option.getD] at hF
  repeat with_reducible first | refine nThen ?_ | refine wp_block ?_
  replace hM := hM.below hb
  refine wp_mono (Q := fun e a w' => e = .exit 0 ∧ ∃ s p q Sp Sq, Fr 76 [(1, Ty.ex (.pointer (some ⟨g1, 0, none⟩))), (2, Ty.ex (.pointer (some ⟨g2, 0, none⟩))), (4, Ty.ex p), (5, Ty.ex q), (6, Ty.ex (.bool (!(peelS seed L).once)))] a w' ∧ Below w.heap.size w w' ∧ RPeel w w' g1 g2 seed s p q (peelS seed L) Sp Sq) ?_ ?_
  · refine loop_ty (fun m a wr => ∃ (n : Nat) (st : Pst) (s p q : Value) (Sp Sq : List Nat), n + m = 1025 ∧ Fr 76 [(1, Ty.ex (.pointer (some ⟨g1, 0, none⟩))), (2, Ty.ex (.pointer (some ⟨g2, 0, none⟩))), (4, Ty.ex p), (5, Ty.ex q), (6, Ty.ex (.bool (!st.once))), (7, Ty.ex (.int .i64 (n : Int)))] a wr ∧ Below w.heap.size w wr ∧ RPeel w wr g1 g2 seed s p q st Sp Sq ∧ st.L.length = L.length ∧ Pst.run seed m st = peelS seed L ∧ st.plus.length + st.minus.length = n) 1025 ?_ ?_
    · exact ⟨0, ⟨L, [], [], true⟩, s, nilS, nilS, [], [], rfl, hF.keep [1, 2, 4, 5, 6, 7], hB, hM, rfl, rfl, rfl⟩
    clear hF hB hM hb hBs hg1 hg2
    rintro m a wr ⟨n, st, s, p, q, Sp, Sq, hn, hF, hB, hM, hlen, hrun, hcnt⟩
    repeat with_reducible refine wp_seq ?_
    refine' reg_all hF ?_ mixed (by kernel_rfl) ?_
    rotate_left
    · repeat (first | exact Line.nil | ((refine' Line.cons rfl (.run rfl rfl ?_) ?_); (any_goals (first | exact cMove rfl rfl | exact cLeq rfl rfl rfl)); rotate_left))
    intro a w10 hF hb hN
    have hBs := hB.size
    replace hB := hB.trans (hb.mono hB.size)
    dsimp only [ext, Option.getD] at hF
    repeat with_reducible refine nThen ?_
    replace hM := hM.below hb
    refine cond_ty hF rfl (fun hle => ?_) (fun hgt => ?_)
    · have hle : n ≤ 1024 := by have := of_decide_eq_true hle; omega
      have hNx := rnext_ty seed st.L (by omega) hsd
      have htb : (Ty.tab 114 seed st.L).p w10 (.agg #[.int .u64 (seed : Int), s]) := ⟨s, rfl, hM.tab⟩
      have hat := tblk_at hM.blk
      unfold nextN at hNx
      by_cases hlt : nextI seed st.L < st.L.length
      · rw [if_pos hlt] at hNx
        have hrn := run_next (m := m - 1) (s := st) hlt
        rw [show m - 1 + 1 = m by omega, hrun] at hrn
        unfold Pst.take at hrn
        dsimp only at hrn
        generalize nextI seed st.L = i at *
        repeat with_reducible first | refine wp_seq ?_ | refine nThen ?_ | refine wp_skip ?_ | refine wp_block ?_
        refine' reg_all hF ?_ mixed (by kernel_rfl) ?_
        rotate_left
        · repeat (first | exact Line.nil | ((refine' Line.cons rfl (.run rfl rfl ?_) ?_); (any_goals (first | exact cAssign rfl rfl | exact cLoadT83 rfl (.l rfl hat) | exact cCallH1 rfl (.l rfl htb) hNx)); rotate_left))
        intro a w11 hF hb hN
        have hBs := hB.size
        replace hB := hB.trans (hb.mono hB.size)
        dsimp only [ext, Option.getD] at hF
        repeat with_reducible first | refine wp_seq ?_ | refine nThen ?_
        replace hM := hM.below hb
        refine' reg_all hF ?_ mixed (by kernel_rfl) ?_
        rotate_left
        · repeat (first | exact Line.nil | ((refine' Line.cons rfl (.run rfl rfl ?_) ?_); (any_goals (first | exact cMove rfl rfl | exact cLss rfl rfl rfl)); rotate_left))
        intro a w12 hF hb hN
        have hBs := hB.size
        replace hB := hB.trans (hb.mono hB.size)
        dsimp only [ext, Option.getD] at hF
        repeat with_reducible refine nThen ?_
        replace hM := hM.below hb
        refine cond_ty hF rfl (fun hneg => ?_) (fun _ => ?_)
        · exact absurd (of_decide_eq_true hneg) (by omega)
        obtain ⟨x, hx⟩ : ∃ x, (st.L.getD i default).key = x := ⟨_, rfl⟩
        rw [hx] at hrn
        repeat with_reducible first | refine wp_seq ?_ | refine nThen ?_ | refine wp_skip ?_
        refine wp_region_lit ?_
        refine' tlOp hF rfl rfl rfl ?_ ?_
        rotate_left
        · exact cFldL83 rfl (.l rfl (tblk_at hM.blk))
        intro a w13 hF hb
        have hBs := hB.size
        replace hB := hB.trans (hb.mono hB.size)
        try (refine wpList_nil ?_)
        replace hM := hM.below hb
        refine' tlOp hF rfl rfl rfl ?_ ?_
        rotate_left
        · exact cRowOf83 rfl (.t rfl)
        intro a w14 hF hb
        have hBs := hB.size
        replace hB := hB.trans (hb.mono hB.size)
        try (refine wpList_nil ?_)
        replace hM := hM.below hb
        refine' tlOp hF rfl rfl rfl ?_ ?_
        rotate_left
        · exact cMove rfl rfl
        intro a w15 hF hb
        have hBs := hB.size
        replace hB := hB.trans (hb.mono hB.size)
        try (refine wpList_nil ?_)
        replace hM := hM.below hb
        refine' tlOp hF rfl rfl rfl ?_ ?_
        rotate_left
        · exact cIndexCl (k := i) rfl (.l rfl hM.tab) rfl Tryd.underlying70 info49 hlt
        intro a w16 hF hb
        have hBs := hB.size
        replace hB := hB.trans (hb.mono hB.size)
        try (refine wpList_nil ?_)
        replace hM := hM.below hb
        refine' tlOp hF rfl rfl rfl ?_ ?_
        rotate_left
        · exact cFldK49 rfl (.t rfl)
        intro a w17 hF hb
        have hBs := hB.size
        replace hB := hB.trans (hb.mono hB.size)
        try (refine wpList_nil ?_)
        replace hM := hM.below hb
        rw [hx] at hF
        refine' tlOp hF rfl rfl rfl ?_ ?_
        rotate_left
        · exact cLoadSum rfl (.t rfl) Tryd.underlying112 sizeR
        intro a w18 hF hb
        have hBs := hB.size
        replace hB := hB.trans (hb.mono hB.size)
        try (refine wpList_nil ?_)
        replace hM := hM.below hb
        have hSp := hM.plus.lt
        have hSq := hM.minus.lt
        have hw18 := hB.size
        refine' tlOp hF rfl rfl rfl ?_ ?_
        rotate_left
        · exact cAllocN rfl (run_alloc_i infoR1)
        intro a w19 hF hb
        have hBs := hB.size
        replace hB := hB.trans (hb.mono hB.size)
        try (refine wpList_nil ?_)
        replace hM := hM.below hb
        obtain ⟨z, ⟨g9, rfl, hg9, hb9⟩, hF⟩ := hF.open (s := 9) rfl
        have hg9 : w18.heap.size ≤ g9 := hg9
        refine tlStoreV (Δ := [(1, Ty.ex (.pointer (some ⟨g1, 0, none⟩))), (2, Ty.ex (.pointer (some ⟨g2, 0, none⟩))), (4, Ty.ex p), (5, Ty.ex q), (6, Ty.ex (.bool (!st.once))), (7, Ty.ex (.int .i64 (n : Int))), (8, Ty.ex (.int .i64 (i : Int))), (9, Ty.ex (.pointer (some ⟨g9, 0, none⟩)))]) hF rfl rfl rfl rfl (hF.getEx (s := 29) rfl) hb9 (sumSz _) (by show _ = some (u8s _).size; rw [Sm.size]; exact sizeR) (u8s_one _) (hF.keep [1, 2, 4, 5, 6, 7, 8, 9]) rfl ?_
        intro w20 hF hb9' hkx
        refine wpList_nil ?_
        have hMk : ∀ y ∈ [g9], w.heap.size ≤ y := by intro y hy; simp only [List.mem_singleton] at hy; omega
        replace hM : RPeel w w20 g1 g2 seed s p q st Sp Sq := ⟨hM.blk.keeps hkx (by simpa using hM.blk.ne hb9 (by decide)), hM.res.keeps hkx (by simpa using hM.res.ne hb9 (by decide)), (Ty.cls 114 st.L).far hM.tab hkx hb9 rfl, hM.plus.keeps hkx (fun y hy hm => by simp only [List.mem_singleton] at hm; have := hSp y hy; omega), hM.minus.keeps hkx (fun y hy hm => by simp only [List.mem_singleton] at hm; have := hSq y hy; omega), hM.own1, hM.own2, hM.ownp, hM.ownq, hM.apart⟩
        replace hB := below_own hB hkx hMk
        replace hb9 : Blk w20 g9 112 (u8s x.l) := hb9'
        clear hb9' hkx hat htb
        have hH1 := r10has_ty st.plus x (by omega)
        have hH2 := r10has_ty st.minus x (by omega)
        obtain ⟨tw, htw⟩ : ∃ tw, tw = !(st.once && !(decide (x ∈ st.plus) || decide (x ∈ st.minus))) := ⟨_, rfl⟩
        have hrn2 : (st.once && !(decide (x ∈ st.plus) || decide (x ∈ st.minus))) = !tw := by rw [htw, Bool.not_not]
        rw [hrn2] at hrn
        repeat with_reducible first | refine wp_seq ?_ | refine nThen ?_
        refine wp_mono (Q := fun e a w' => e = .normal ∧ Fr 76 [(1, Ty.ex (.pointer (some ⟨g1, 0, none⟩))), (2, Ty.ex (.pointer (some ⟨g2, 0, none⟩))), (4, Ty.ex p), (5, Ty.ex q), (6, Ty.ex (.bool tw)), (7, Ty.ex (.int .i64 (n : Int))), (8, Ty.ex (.int .i64 (i : Int))), (9, Ty.ex (.pointer (some ⟨g9, 0, none⟩)))] a w' ∧ Below w20.heap.size w20 w') ?_ ?_
        · have h9 := at5R hb9
          have hsp : (Ty.sums 112 st.plus).p w20 p := hM.plus.sl
          have hsq : (Ty.sums 112 st.minus).p w20 q := hM.minus.sl
          subst htw
          replace hB := Below.refl w20.heap.size w20
          cases ho : st.once with
          | false =>
            rw [ho] at hF
            refine' reg_all hF ?_ mixed (by kernel_rfl) ?_
            rotate_left
            · repeat (first | exact Line.nil | (refine' Line.cons rfl (.no rfl rfl rfl rfl rfl rfl) ?_; rotate_left) | ((refine' Line.cons rfl (.run rfl rfl ?_) ?_); (any_goals (first | exact cMove rfl rfl | exact cAssign rfl rfl | exact cPickT rfl rfl rfl)); rotate_left))
            intro a w21 hF hb hN
            have hBs := hB.size
            replace hB := hB.trans (hb.mono hB.size)
            dsimp only [ext, Option.getD] at hF
            exact ⟨rfl, hF.keep [1, 2, 4, 5, 6, 7, 8, 9], hB⟩
          | true =>
            rw [ho] at hF
            cases ha : decide (x ∈ st.plus) with
            | true =>
              rw [ha] at hH1
              refine' reg_all hF ?_ mixed (by kernel_rfl) ?_
              rotate_left
              · repeat (first | exact Line.nil | (refine' Line.cons rfl (.no rfl rfl rfl rfl rfl rfl) ?_; rotate_left) | ((first | refine' Line.cons rfl (.run rfl rfl ?_) ?_ | refine' Line.cons rfl (.yes rfl rfl rfl rfl ?_) ?_); (any_goals (first | exact cMove rfl rfl | exact cAssign rfl rfl | exact cLoadSum rfl (.l rfl h9) Tryd.underlying112 sizeR | exact cCallH2 rfl (.l rfl hsp) (.t rfl) hH1 | exact cPickT rfl rfl rfl | exact cPickF rfl rfl rfl)); rotate_left))
              intro a w21 hF hb hN
              have hBs := hB.size
              replace hB := hB.trans (hb.mono hB.size)
              dsimp only [ext, Option.getD] at hF
              exact ⟨rfl, hF.keep [1, 2, 4, 5, 6, 7, 8, 9], hB⟩
            | false =>
              rw [ha] at hH1
              refine' reg_all hF ?_ mixed (by kernel_rfl) ?_
              rotate_left
              · repeat (first | exact Line.nil | ((first | refine' Line.cons rfl (.run rfl rfl ?_) ?_ | refine' Line.cons rfl (.yes rfl rfl rfl rfl ?_) ?_); (any_goals (first | exact cMove rfl rfl | exact cAssign rfl rfl | exact cLoadSum rfl (.l rfl h9) Tryd.underlying112 sizeR | exact cCallH2 rfl (.l rfl hsp) (.t rfl) hH1 | exact cCallH2 rfl (.l rfl hsq) (.t rfl) hH2 | exact cPickF rfl rfl rfl)); rotate_left))
              intro a w21 hF hb hN
              have hBs := hB.size
              replace hB := hB.trans (hb.mono hB.size)
              dsimp only [ext, Option.getD] at hF
              refine ⟨rfl, ?_, hB⟩
              rw [Bool.true_and, Bool.false_or, Bool.not_not]
              exact hF.keep [1, 2, 4, 5, 6, 7, 8, 9]
        clear hF
        rintro e a w21 ⟨rfl, hF, hb⟩
        replace hB := hB.trans (hb.mono hB.size)
        replace hM := hM.below hb
        replace hb9 := hb9.below hb
        repeat with_reducible first | refine wp_seq ?_ | refine nThen ?_
        have hat := tblk_at hM.blk
        have htab := hM.tab
        by_cases hc : (st.L.getD i default).n = 1
        · refine' reg_all hF ?_ mixed (by kernel_rfl) ?_
          rotate_left
          · repeat (first | exact Line.nil | ((refine' Line.cons rfl (.run rfl rfl ?_) ?_); (any_goals (first | exact cMove rfl rfl | exact cFldL83 rfl (.l rfl hat) | exact cRowOf83 rfl (.t rfl) | exact cIndexCl (k := i) rfl (.l rfl htab) rfl Tryd.underlying70 info49 hlt | exact cFldN49 rfl (.t rfl) | exact cLoadN rfl (.t rfl) | exact OpOk.b (c := true) (cEql rfl rfl rfl) (decide_eq_true hc))); rotate_left))
          intro a w22 hF hb hN
          have hBs := hB.size
          replace hB := hB.trans (hb.mono hB.size)
          dsimp only [ext, Option.getD] at hF
          repeat with_reducible refine nThen ?_
          replace hM := hM.below hb
          replace hb9 := hb9.below hb
          refine cond_t hF rfl ?_
          repeat with_reducible refine wp_seq ?_
          rw [if_pos hc] at hrn
          have hput := rput_ty seed st.L x (-1) (by omega) hsd
          refine wp_region_lit ?_
          refine' tlOp hF rfl rfl rfl ?_ ?_
          rotate_left
          · exact cMove rfl rfl
          intro a w30 hF hb
          have hBs := hB.size
          replace hB := hB.trans (hb.mono hB.size)
          try (refine wpList_nil ?_)
          replace hM := hM.below hb
          replace hb9 := hb9.below hb
          refine' tlOp hF rfl rfl rfl ?_ ?_
          rotate_left
          · exact cLoadSum rfl (.l rfl (at5R hb9)) Tryd.underlying112 sizeR
          intro a w31 hF hb
          have hBs := hB.size
          replace hB := hB.trans (hb.mono hB.size)
          try (refine wpList_nil ?_)
          replace hM := hM.below hb
          replace hb9 := hb9.below hb
          refine' tlOp hF rfl rfl rfl ?_ ?_
          rotate_left
          · exact cBuildSums [x] rfl (parts1v rfl rfl) Tryd.underlying76 infoR1 rfl
          intro a w32 hF hb
          have hBs := hB.size
          replace hB := hB.trans (hb.mono hB.size)
          try (refine wpList_nil ?_)
          replace hM := hM.below hb
          replace hb9 := hb9.below hb
          have hw32 := hB.size
          refine tlAppend (Δ := [(1, Ty.ex (.pointer (some ⟨g1, 0, none⟩))), (2, Ty.ex (.pointer (some ⟨g2, 0, none⟩))), (5, Ty.ex q), (6, Ty.ex (.bool tw)), (7, Ty.ex (.int .i64 (n : Int))), (9, Ty.ex (.pointer (some ⟨g9, 0, none⟩)))]) (n := st.plus.length) (m := 1) (news := flat [x]) hF rfl rfl rfl rfl Tryd.underlying76 infoR1 zero32_size rfl hM.plus (.t rfl) sl_news (flat_len _) flat_one' (by simp [maxLen]; omega) (by omega) (hF.keep [1, 2, 5, 6, 7, 9]) rfl ?_
          intro a w33 p' S' hF hseg hk33 hS33
          rw [← flat_append] at hseg
          have hg9n : g9 ∉ Sp := fun hm => by have := hSp g9 hm; omega
          replace hb9 := hb9.keeps hk33 hg9n
          replace hB := below_own hB hk33 hM.ownp
          replace hM := hM.app_p (x := x) (o := !tw) hk33 hseg hS33 (by omega)
          refine' tlOp hF rfl rfl rfl ?_ ?_
          rotate_left
          · exact cAssign rfl rfl
          intro a w34 hF hb
          have hBs := hB.size
          replace hB := hB.trans (hb.mono hB.size)
          try (refine wpList_nil ?_)
          repeat with_reducible refine nThen ?_
          replace hM := hM.below hb
          replace hb9 := hb9.below hb
          refine wp_region_lit ?_
          refine' tlOp hF rfl rfl rfl ?_ ?_
          rotate_left
          · exact cLoadT83 rfl (.l rfl (tblk_at hM.blk))
          intro a w35 hF hb
          have hBs := hB.size
          replace hB := hB.trans (hb.mono hB.size)
          try (refine wpList_nil ?_)
          replace hM := hM.below hb
          replace hb9 := hb9.below hb
          refine' tlOp hF rfl rfl rfl ?_ ?_
          rotate_left
          · exact cLoadSum rfl (.l rfl (at5R hb9)) Tryd.underlying112 sizeR
          intro a w36 hF hb
          have hBs := hB.size
          replace hB := hB.trans (hb.mono hB.size)
          try (refine wpList_nil ?_)
          replace hM := hM.below hb
          refine' tlOp hF rfl rfl rfl ?_ ?_
          rotate_left
          · exact cCallR3 rfl (Has.l (τ := Ty.tab 114 seed st.L) rfl ⟨s, rfl, hM.tab⟩) (.t rfl) (.t rfl) hput (tabO_olds _ _ _)
          intro a w37 hF hb
          have hBs := hB.size
          replace hB := hB.trans (hb.mono hB.size)
          try (refine wpList_nil ?_)
          replace hM := hM.below hb
          obtain ⟨z, ⟨s', rfl, Ss, hsg, hSs⟩, hF⟩ := hF.open (s := 54) rfl
          refine tlStoreV (Δ := [(1, Ty.ex (.pointer (some ⟨g1, 0, none⟩))), (2, Ty.ex (.pointer (some ⟨g2, 0, none⟩))), (4, Ty.ex p'), (5, Ty.ex q), (6, Ty.ex (.bool tw)), (7, Ty.ex (.int .i64 (n : Int)))]) hF rfl rfl rfl rfl (hF.getEx (s := 54) rfl) hM.blk rfl sizeT83 (sl_one hsg.sl _) (hF.keep [1, 2, 4, 5, 6, 7]) rfl ?_
          intro w38 hF hb1' hkx
          refine wpList_nil ?_
          have hsl := (Ty.cls 114 (tput seed st.L x (-1))).far hsg.sl hkx hM.blk rfl
          have hg1w := hM.own1
          replace hM := hM.put (o := !tw) hkx hb1' hsl
          replace hB := below_own hB hkx (by intro y hy; simp only [List.mem_singleton] at hy; omega)
          repeat with_reducible first | refine nThen ?_ | refine nBlk ?_
          refine' reg_all hF ?_ mixed (by kernel_rfl) ?_
          rotate_left
          · repeat (first | exact Line.nil | ((refine' Line.cons rfl (.run rfl rfl ?_) ?_); (any_goals (first | exact cMove rfl rfl | exact cAssign rfl rfl | exact cAdd (r := ((n + 1 : Nat) : Int)) rfl rfl rfl (by omega))); rotate_left))
          intro a w39 hF hb hN
          have hBs := hB.size
          replace hB := hB.trans (hb.mono hB.size)
          dsimp only [ext, Option.getD] at hF
          repeat with_reducible refine nThen ?_
          exact ⟨m - 1, by omega, n + 1, ⟨tput seed st.L x (-1), st.plus ++ [x], st.minus, !tw⟩, s', p', q, S', Sq, by omega, by rw [Bool.not_not]; exact hF.keep [1, 2, 4, 5, 6, 7], hB, hM.below hb, by rw [tput_len]; exact hlen, hrn.symm, by simp; omega⟩
        · refine' reg_all hF ?_ mixed (by kernel_rfl) ?_
          rotate_left
          · repeat (first | exact Line.nil | ((refine' Line.cons rfl (.run rfl rfl ?_) ?_); (any_goals (first | exact cMove rfl rfl | exact cFldL83 rfl (.l rfl hat) | exact cRowOf83 rfl (.t rfl) | exact cIndexCl (k := i) rfl (.l rfl htab) rfl Tryd.underlying70 info49 hlt | exact cFldN49 rfl (.t rfl) | exact cLoadN rfl (.t rfl) | exact OpOk.b (c := false) (cEql rfl rfl rfl) (decide_eq_false hc))); rotate_left))
          intro a w22 hF hb hN
          have hBs := hB.size
          replace hB := hB.trans (hb.mono hB.size)
          dsimp only [ext, Option.getD] at hF
          repeat with_reducible refine nThen ?_
          replace hM := hM.below hb
          replace hb9 := hb9.below hb
          refine cond_f hF rfl ?_
          repeat with_reducible refine wp_seq ?_
          rw [if_neg hc] at hrn
          have hput := rput_ty seed st.L x 1 (by omega) hsd
          refine wp_region_lit ?_
          refine' tlOp hF rfl rfl rfl ?_ ?_
          rotate_left
          · exact cMove rfl rfl
          intro a w30 hF hb
          have hBs := hB.size
          replace hB := hB.trans (hb.mono hB.size)
          try (refine wpList_nil ?_)
          replace hM := hM.below hb
          replace hb9 := hb9.below hb
          refine' tlOp hF rfl rfl rfl ?_ ?_
          rotate_left
          · exact cLoadSum rfl (.l rfl (at5R hb9)) Tryd.underlying112 sizeR
          intro a w31 hF hb
          have hBs := hB.size
          replace hB := hB.trans (hb.mono hB.size)
          try (refine wpList_nil ?_)
          replace hM := hM.below hb
          replace hb9 := hb9.below hb
          refine' tlOp hF rfl rfl rfl ?_ ?_
          rotate_left
          · exact cBuildSums [x] rfl (parts1v rfl rfl) Tryd.underlying76 infoR1 rfl
          intro a w32 hF hb
          have hBs := hB.size
          replace hB := hB.trans (hb.mono hB.size)
          try (refine wpList_nil ?_)
          replace hM := hM.below hb
          replace hb9 := hb9.below hb
          have hw32 := hB.size
          refine tlAppend (Δ := [(1, Ty.ex (.pointer (some ⟨g1, 0, none⟩))), (2, Ty.ex (.pointer (some ⟨g2, 0, none⟩))), (4, Ty.ex p), (6, Ty.ex (.bool tw)), (7, Ty.ex (.int .i64 (n : Int))), (9, Ty.ex (.pointer (some ⟨g9, 0, none⟩)))]) (n := st.minus.length) (m := 1) (news := flat [x]) hF rfl rfl rfl rfl Tryd.underlying76 infoR1 zero32_size rfl hM.minus (.t rfl) sl_news (flat_len _) flat_one' (by simp [maxLen]; omega) (by omega) (hF.keep [1, 2, 4, 6, 7, 9]) rfl ?_
          intro a w33 p' S' hF hseg hk33 hS33
          rw [← flat_append] at hseg
          have hg9n : g9 ∉ Sq := fun hm => by have := hSq g9 hm; omega
          replace hb9 := hb9.keeps hk33 hg9n
          replace hB := below_own hB hk33 hM.ownq
          replace hM := hM.app_q (x := x) (o := !tw) hk33 hseg hS33 (by omega)
          refine' tlOp hF rfl rfl rfl ?_ ?_
          rotate_left
          · exact cAssign rfl rfl
          intro a w34 hF hb
          have hBs := hB.size
          replace hB := hB.trans (hb.mono hB.size)
          try (refine wpList_nil ?_)
          repeat with_reducible refine nThen ?_
          replace hM := hM.below hb
          replace hb9 := hb9.below hb
          refine wp_region_lit ?_
          refine' tlOp hF rfl rfl rfl ?_ ?_
          rotate_left
          · exact cLoadT83 rfl (.l rfl (tblk_at hM.blk))
          intro a w35 hF hb
          have hBs := hB.size
          replace hB := hB.trans (hb.mono hB.size)
          try (refine wpList_nil ?_)
          replace hM := hM.below hb
          replace hb9 := hb9.below hb
          refine' tlOp hF rfl rfl rfl ?_ ?_
          rotate_left
          · exact cLoadSum rfl (.l rfl (at5R hb9)) Tryd.underlying112 sizeR
          intro a w36 hF hb
          have hBs := hB.size
          replace hB := hB.trans (hb.mono hB.size)
          try (refine wpList_nil ?_)
          replace hM := hM.below hb
          refine' tlOp hF rfl rfl rfl ?_ ?_
          rotate_left
          · exact cCallR3 rfl (Has.l (τ := Ty.tab 114 seed st.L) rfl ⟨s, rfl, hM.tab⟩) (.t rfl) (.t rfl) hput (tabO_olds _ _ _)
          intro a w37 hF hb
          have hBs := hB.size
          replace hB := hB.trans (hb.mono hB.size)
          try (refine wpList_nil ?_)
          replace hM := hM.below hb
          obtain ⟨z, ⟨s', rfl, Ss, hsg, hSs⟩, hF⟩ := hF.open (s := 61) rfl
          refine tlStoreV (Δ := [(1, Ty.ex (.pointer (some ⟨g1, 0, none⟩))), (2, Ty.ex (.pointer (some ⟨g2, 0, none⟩))), (4, Ty.ex p), (5, Ty.ex p'), (6, Ty.ex (.bool tw)), (7, Ty.ex (.int .i64 (n : Int)))]) hF rfl rfl rfl rfl (hF.getEx (s := 61) rfl) hM.blk rfl sizeT83 (sl_one hsg.sl _) (hF.keep [1, 2, 4, 5, 6, 7]) rfl ?_
          intro w38 hF hb1' hkx
          refine wpList_nil ?_
          have hsl := (Ty.cls 114 (tput seed st.L x 1)).far hsg.sl hkx hM.blk rfl
          have hg1w := hM.own1
          replace hM := hM.put (o := !tw) hkx hb1' hsl
          replace hB := below_own hB hkx (by intro y hy; simp only [List.mem_singleton] at hy; omega)
          repeat with_reducible first | refine nThen ?_ | refine nBlk ?_
          refine' reg_all hF ?_ mixed (by kernel_rfl) ?_
          rotate_left
          · repeat (first | exact Line.nil | ((refine' Line.cons rfl (.run rfl rfl ?_) ?_); (any_goals (first | exact cMove rfl rfl | exact cAssign rfl rfl | exact cAdd (r := ((n + 1 : Nat) : Int)) rfl rfl rfl (by omega))); rotate_left))
          intro a w39 hF hb hN
          have hBs := hB.size
          replace hB := hB.trans (hb.mono hB.size)
          dsimp only [ext, Option.getD] at hF
          repeat with_reducible refine nThen ?_
          exact ⟨m - 1, by omega, n + 1, ⟨tput seed st.L x 1, st.plus, st.minus ++ [x], !tw⟩, s', p, p', Sp, S', by omega, by rw [Bool.not_not]; exact hF.keep [1, 2, 4, 5, 6, 7], hB, hM.below hb, by rw [tput_len]; exact hlen, hrn.symm, by simp; omega⟩
      · rw [if_neg hlt] at hNx
        rw [run_stop hlt] at hrun
        repeat with_reducible first | refine wp_seq ?_ | refine nThen ?_ | refine wp_skip ?_ | refine wp_block ?_
        refine' reg_all hF ?_ mixed (by kernel_rfl) ?_
        rotate_left
        · repeat (first | exact Line.nil | ((refine' Line.cons rfl (.run rfl rfl ?_) ?_); (any_goals (first | exact cAssign rfl rfl | exact cLoadT83 rfl (.l rfl hat) | exact cCallH1 rfl (.l rfl htb) hNx)); rotate_left))
        intro a w11 hF hb hN
        have hBs := hB.size
        replace hB := hB.trans (hb.mono hB.size)
        dsimp only [ext, Option.getD] at hF
        repeat with_reducible first | refine wp_seq ?_ | refine nThen ?_
        replace hM := hM.below hb
        refine' reg_all hF ?_ mixed (by kernel_rfl) ?_
        rotate_left
        · repeat (first | exact Line.nil | ((refine' Line.cons rfl (.run rfl rfl ?_) ?_); (any_goals (first | exact cMove rfl rfl | exact cLss rfl rfl rfl)); rotate_left))
        intro a w12 hF hb hN
        have hBs := hB.size
        replace hB := hB.trans (hb.mono hB.size)
        dsimp only [ext, Option.getD] at hF
        repeat with_reducible refine nThen ?_
        replace hM := hM.below hb
        refine cond_ty hF rfl (fun _ => ?_) (fun hneg => ?_)
        · repeat with_reducible first | refine wp_exit ?_ | refine xThen ?_ | refine xFar (by decide) ?_
          rw [← hrun]
          exact ⟨rfl, s, p, q, Sp, Sq, hF.keep [1, 2, 4, 5, 6], hB, hM⟩
        · exact absurd (of_decide_eq_false hneg) (by omega)
    · have hgt : ¬ n ≤ 1024 := by have := of_decide_eq_false hgt; omega
      obtain rfl : m = 0 := by omega
      have hrun : st = peelS seed L := hrun
      repeat with_reducible first | refine wp_exit ?_ | refine xThen ?_
      rw [← hrun]
      exact ⟨rfl, s, p, q, Sp, Sq, hF.keep [1, 2, 4, 5, 6], hB, hM⟩
  clear hF hB hM hb hBs
  rintro e a wr ⟨rfl, s', p, q, Sp, Sq, hF, hB, hM⟩
  have eok : peelOk seed L = ((peelS seed L).once && allZ (peelS seed L).L) := by unfold peelOk Pst.fine; rw [hok, Bool.true_and]
  have eS : resS seed L = seed := by unfold resS; rw [hok]; rfl
  have eL : resL seed L = (peelS seed L).L := by unfold resL; rw [hok]; rfl
  have hlen : (peelS seed L).L.length = L.length := Pst.run_len _ _ _
  have hf1 := peel_few1 (seed := seed) (L := L)
  have hgd : goodN ((peelS seed L).L.length : Int) = true := by rw [hlen]; exact hok
  have eP : resP seed L = if peelOk seed L then setL (peelS seed L).plus else [] := rfl
  have eM : resM seed L = if peelOk seed L then setL (peelS seed L).minus else [] := rfl
  have eN : resN seed L = if peelOk seed L then 0 else 10 := by unfold resN; rw [hok]; rfl
  rw [eS, eL, eP, eM, eN, eok]
  generalize peelS seed L = st at *
  clear eok eS eL eP eM eN
  have hTZ := rzero_ty seed st.L (by omega)
  rw [hgd, Bool.true_and] at hTZ
  have htb : (Ty.tab 114 seed st.L).p wr (.agg #[.int .u64 (seed : Int), s']) := ⟨s', rfl, hM.tab⟩
  have hat := tblk_at hM.blk
  repeat with_reducible first | refine wp_seq ?_ | refine nThen ?_ | refine xHere ?_
  refine wp_mono (Q := fun e a w' => e = .normal ∧ Fr 76 [(1, Ty.ex (.pointer (some ⟨g1, 0, none⟩))), (2, Ty.ex (.pointer (some ⟨g2, 0, none⟩))), (4, Ty.ex p), (5, Ty.ex q), (67, Ty.ex (.bool (!(st.once && allZ st.L))))] a w' ∧ Below wr.heap.size wr w') ?_ ?_
  · replace hB := Below.refl wr.heap.size wr
    cases ho : st.once with
    | true =>
      rw [ho] at hF
      rw [Bool.true_and]
      refine' reg_all hF ?_ mixed (by kernel_rfl) ?_
      rotate_left
      · repeat (first | exact Line.nil | ((first | refine' Line.cons rfl (.run rfl rfl ?_) ?_ | refine' Line.cons rfl (.yes rfl rfl rfl rfl ?_) ?_); (any_goals (first | exact cMove rfl rfl | exact cNot rfl rfl | exact cLoadT83 rfl (.l rfl hat) | exact cCallH1 rfl (.l rfl htb) hTZ | exact cPickF rfl rfl rfl)); rotate_left))
      intro a w50 hF hb hN
      have hBs := hB.size
      replace hB := hB.trans (hb.mono hB.size)
      dsimp only [ext, Option.getD] at hF
      exact ⟨rfl, hF.keep [1, 2, 4, 5, 67], hB⟩
    | false =>
      rw [ho] at hF
      rw [Bool.false_and]
      refine' reg_all hF ?_ mixed (by kernel_rfl) ?_
      rotate_left
      · repeat (first | exact Line.nil | (refine' Line.cons rfl (.no rfl rfl rfl rfl rfl rfl) ?_; rotate_left) | ((refine' Line.cons rfl (.run rfl rfl ?_) ?_); (any_goals (first | exact cMove rfl rfl | exact cPickT rfl rfl rfl)); rotate_left))
      intro a w50 hF hb hN
      have hBs := hB.size
      replace hB := hB.trans (hb.mono hB.size)
      dsimp only [ext, Option.getD] at hF
      exact ⟨rfl, hF.keep [1, 2, 4, 5, 67], hB⟩
  clear hF
  rintro e a w51 ⟨rfl, hF, hb⟩
  replace hB := hB.trans (hb.mono hB.size)
  replace hM := hM.below hb
  have hg2 := hM.own2
  have hsLA := sl_isA hM.tab
  clear htb hat
  repeat with_reducible refine nThen ?_
  cases hz : (st.once && allZ st.L) with
  | false =>
    rw [hz] at hF
    simp only [Bool.false_eq_true, if_false]
    refine cond_t hF rfl ?_
    repeat with_reducible refine wp_seq ?_
    refine wp_region_lit ?_
    refine' tlOp hF rfl rfl rfl ?_ ?_
    rotate_left
    · exact cLoadT83 rfl (.l rfl (tblk_at hM.blk))
    intro a w52 hF hb
    have hBs := hB.size
    replace hB := hB.trans (hb.mono hB.size)
    try (refine wpList_nil ?_)
    replace hM := hM.below hb
    refine' tlOp hF rfl rfl rfl ?_ ?_
    rotate_left
    · exact cBuildI rfl rfl (fun w => buildRLR _ hsLA w)
    intro a w53 hF hb
    have hBs := hB.size
    replace hB := hB.trans (hb.mono hB.size)
    try (refine wpList_nil ?_)
    replace hM := hM.below hb
    refine tlStoreV (Δ := [(2, Ty.ex (.pointer (some ⟨g2, 0, none⟩)))]) hF rfl rfl rfl rfl (hF.getEx (s := 69) rfl) hM.res rfl sizeResR (res_one ⟨_, _, _, rfl⟩ ⟨_, _, _, rfl⟩ hsLA) (hF.keep [2]) rfl ?_
    intro w54 hF hb2 hkx
    have hsl := (Ty.cls 114 st.L).far hM.tab hkx hM.res rfl
    replace hB := below_own hB hkx (by intro y hy; simp only [List.mem_singleton] at hy; omega)
    refine' tlOp hF rfl rfl rfl ?_ ?_
    rotate_left
    · exact cAssign rfl rfl
    intro a w55 hF hb
    have hBs := hB.size
    replace hB := hB.trans (hb.mono hB.size)
    try (refine wpList_nil ?_)
    repeat with_reducible first | refine nThen ?_ | refine wp_ret ?_ | refine rThen ?_
    refine retCell2 hF rfl rfl rfl (hb2.below hb) Tryd.underlying78 rfl sizeResR ?_
    exact ⟨_, rfl, ⟨[_, _], rfl, ⟨nilS, nilS, s', rfl, sl_nil _ _, sl_nil _ _, (Ty.cls 114 st.L).below hsl hb⟩, rfl, trivial⟩, hB⟩
  | true =>
    rw [hz] at hF
    simp only [if_true]
    refine cond_f hF rfl ?_
    repeat with_reducible first | refine wp_seq ?_ | refine nThen ?_ | refine wp_skip ?_
    have hsp : (Ty.sums 112 st.plus).p w51 p := hM.plus.sl
    have hsq : (Ty.sums 112 st.minus).p w51 q := hM.minus.sl
    have hO0 := r10of_ty st.minus (by omega)
    have hO1 := r10of_ty st.plus (by omega)
    have hsl0 := hM.tab
    have hat := tblk_at hM.blk
    generalize setL st.plus = P at *
    generalize setL st.minus = M at *
    refine' region_ty 6 mixed (by kernel_rfl) hF ?_ ?_
    rotate_left
    · simp only [List.take_succ_cons, List.take_zero]
      repeat (first | exact Line.nil | ((refine' Line.cons rfl (.run rfl rfl ?_) ?_); (any_goals (first | exact cMove rfl rfl | exact cCallS1 rfl (.l rfl hsp) hO1 | exact cCallS1 rfl (.l rfl hsq) hO0 | exact cLoadT83 rfl (.l rfl hat) | exact cBuildResR (P := P) (M := M) (L := st.L) rfl rfl rfl rfl hsl0 rfl rfl)); rotate_left))
    intro a w52 hF hb hN
    have hBs := hB.size
    replace hB := hB.trans (hb.mono hB.size)
    simp only [List.take_succ_cons, List.take_zero, List.drop_succ_cons, List.drop_zero] at hF hN ⊢
    dsimp only [ext, Option.getD] at hF
    replace hM := hM.below hb
    obtain ⟨z, ⟨p', q', s2, rfl, k1, k2, k3⟩, hF⟩ := hF.open (s := 75) rfl
    refine tlStoreV (Δ := [(2, Ty.ex (.pointer (some ⟨g2, 0, none⟩)))]) hF rfl rfl rfl rfl (hF.getEx (s := 75) rfl) hM.res rfl sizeResR (res_one (sl_isA k1) (sl_isA k2) (sl_isA k3)) (hF.keep [2]) rfl ?_
    intro w53 hF hb2 hkx
    have hres : (Ty.resR P M seed st.L).p w53 (.agg #[p', q', .int .u64 (seed : Int), s2]) := (Ty.resR P M seed st.L).far (by exact ⟨p', q', s2, rfl, k1, k2, k3⟩) hkx hM.res rfl
    replace hB := below_own hB hkx (by intro y hy; simp only [List.mem_singleton] at hy; omega)
    refine' tlOp hF rfl rfl rfl ?_ ?_
    rotate_left
    · exact cAssign rfl rfl
    intro a w54 hF hb
    have hBs := hB.size
    replace hB := hB.trans (hb.mono hB.size)
    try (refine wpList_nil ?_)
    repeat with_reducible first | refine nThen ?_ | refine wp_ret ?_
    refine retCell2 hF rfl rfl rfl (hb2.below hb) Tryd.underlying78 rfl sizeResR ?_
    exact ⟨_, rfl, ⟨[_, _], rfl, (Ty.resR P M seed st.L).below hres hb, rfl, trivial⟩, hB⟩
end Go.Proofs.YtgmeagkolahkoaaDoor

/- The document's strata: Differ. -/
namespace Go.Proofs.YtgmeagkolahkoaaDoor
open Go.RowKit

set_option maxRecDepth 100000 in
theorem rdiffer_bad (sa sb : Nat) (A B : List (List Cl)) (hA : A.length ≤ 1000000) (hBl : B.length ≤ 1000000) (h : (goodSt A && goodSt B && decide (sa = sb)) = false) : Fn2 Tryd.prog 12 (Ty.stra 72 114 sa A) (Ty.stra 72 114 sb B) (Ty.tup [Ty.ex (.int .i64 0), Ty.ex (.int .i64 1)]) := by
  refine ⟨fun args w => by kernel_rfl, fun w v u ⟨s, hv, hs⟩ ⟨s2, hu, hs2⟩ => ?_⟩
  subst hv hu
  have gA := rsgood_ty sa A hA
  have gB := rsgood_ty sb B hBl
  let TA := Ty.tabs 72 114 sa A
  let TB := Ty.tabs 72 114 sb B
  refine enter_ty 75 [Ty.ex (.agg #[.int .u64 (sa : Int), s]), Ty.ex (.agg #[.int .u64 (sb : Int), s2])] Tryd.func12 rfl (by kernel_rfl) ⟨rfl, rfl, trivial⟩ fun a hF => ?_
  have hB := Below.refl w.heap.size w
  repeat with_reducible first | refine wp_seq ?_ | refine nThen ?_ | refine wp_ret ?_ | refine rThen ?_
  refine' reg_all hF ?_ mixed (by kernel_rfl) ?_
  rotate_left
  · repeat (first
        | exact Line.nil
        | (refine' Line.cons rfl (.no rfl rfl rfl rfl rfl rfl) ?_; rotate_left)
        | ((first | refine' Line.cons rfl (.run rfl rfl ?_) ?_ | refine' Line.cons rfl (.yes rfl rfl rfl rfl ?_) ?_)
           any_goals (first | exact cMove rfl rfl | exact cAssign rfl rfl | exact cNot rfl rfl | exact cBoxTab rfl rfl | exact cPickT rfl rfl rfl | exact cPickF rfl rfl rfl | exact cNeq rfl rfl rfl)
           rotate_left))
  intro a w1 hF hb hN
  have hBs := hB.size
  replace hB := hB.trans (hb.mono hB.size)
  dsimp only [ext, Option.getD] at hF
  repeat with_reducible first | refine wp_seq ?_ | refine nThen ?_ | refine wp_ret ?_ | refine rThen ?_
  replace hF := hF.as hF (s := 2) (σ := Ty.straP StTR 72 114 sa A) rfl (fun v hv => ⟨s, hv, TA.below hs hB⟩)
  replace hF := hF.as hF (s := 3) (σ := Ty.straP StTR 72 114 sb B) rfl (fun v hv => ⟨s2, hv, TB.below hs2 hB⟩)
  refine wp_mono (Q := fun e a w' => e = .normal ∧ Fr 75 [(27, Ty.ex (.bool true))] a w' ∧ Below w.heap.size w w') ?_ ?_
  · cases g1 : goodSt A with
    | false =>
      rw [g1] at gA
      refine' reg_all hF ?_ mixed (by kernel_rfl) ?_
      rotate_left
      · repeat (first
            | exact Line.nil
            | (refine' Line.cons rfl (.no rfl rfl rfl rfl rfl rfl) ?_; rotate_left)
            | ((first | refine' Line.cons rfl (.run rfl rfl ?_) ?_ | refine' Line.cons rfl (.yes rfl rfl rfl rfl ?_) ?_)
               any_goals (first | exact cMove rfl rfl | exact cAssign rfl rfl | exact cNot rfl rfl | exact cLoadStR rfl (.t rfl) | exact cCall1 rfl rfl gA | exact cPickT rfl rfl rfl | exact cPickF rfl rfl rfl | exact cNeq rfl rfl rfl)
               rotate_left))
      intro a w2 hF hb hN
      have hBs := hB.size
      replace hB := hB.trans (hb.mono hB.size)
      dsimp only [ext, Option.getD] at hF
      repeat with_reducible first | refine wp_seq ?_ | refine nThen ?_ | refine wp_ret ?_ | refine rThen ?_
      exact ⟨rfl, hF.keep [27], hB⟩
    | true =>
    cases g2 : goodSt B with
    | false =>
      rw [g1] at gA
      rw [g2] at gB
      refine' reg_all hF ?_ mixed (by kernel_rfl) ?_
      rotate_left
      · repeat (first
            | exact Line.nil
            | (refine' Line.cons rfl (.no rfl rfl rfl rfl rfl rfl) ?_; rotate_left)
            | ((first | refine' Line.cons rfl (.run rfl rfl ?_) ?_ | refine' Line.cons rfl (.yes rfl rfl rfl rfl ?_) ?_)
               any_goals (first | exact cMove rfl rfl | exact cAssign rfl rfl | exact cNot rfl rfl | exact cLoadStR rfl (.t rfl) | exact cCall1 rfl rfl gA | exact cCall1 rfl rfl gB | exact cPickT rfl rfl rfl | exact cPickF rfl rfl rfl | exact cNeq rfl rfl rfl)
               rotate_left))
      intro a w2 hF hb hN
      have hBs := hB.size
      replace hB := hB.trans (hb.mono hB.size)
      dsimp only [ext, Option.getD] at hF
      repeat with_reducible first | refine wp_seq ?_ | refine nThen ?_ | refine wp_ret ?_ | refine rThen ?_
      exact ⟨rfl, hF.keep [27], hB⟩
    | true =>
      rw [g1] at gA
      rw [g2] at gB
      rw [g1, g2] at h
      have hne : ¬ sa = sb := of_decide_eq_false (by simpa using h)
      refine' reg_all hF ?_ mixed (by kernel_rfl) ?_
      rotate_left
      · repeat (first
            | exact Line.nil
            | (refine' Line.cons rfl (.no rfl rfl rfl rfl rfl rfl) ?_; rotate_left)
            | ((first | refine' Line.cons rfl (.run rfl rfl ?_) ?_ | refine' Line.cons rfl (.yes rfl rfl rfl rfl ?_) ?_)
               any_goals (first | exact cMove rfl rfl | exact cAssign rfl rfl | exact cNot rfl rfl | exact cLoadStR rfl (.t rfl) | exact cCall1 rfl rfl gA | exact cCall1 rfl rfl gB | exact cStraSR rfl (.t rfl) | exact cLoadU64 rfl (.t rfl) | exact OpOk.b (c := true) (cNeq rfl rfl rfl) (by simp; omega) | exact cPickT rfl rfl rfl | exact cPickF rfl rfl rfl | exact cNeq rfl rfl rfl)
               rotate_left))
      intro a w2 hF hb hN
      have hBs := hB.size
      replace hB := hB.trans (hb.mono hB.size)
      dsimp only [ext, Option.getD] at hF
      repeat with_reducible first | refine wp_seq ?_ | refine nThen ?_ | refine wp_ret ?_ | refine rThen ?_
      exact ⟨rfl, hF.keep [27], hB⟩
  clear hF hB
  rintro e a w2 ⟨rfl, hF, hB⟩
  repeat with_reducible first | refine wp_seq ?_ | refine nThen ?_ | refine wp_ret ?_ | refine rThen ?_
  refine cond_t hF rfl ?_
  repeat with_reducible first | refine wp_seq ?_ | refine nThen ?_ | refine wp_ret ?_ | refine rThen ?_
  refine' reg_all hF ?_ mixed (by kernel_rfl) ?_
  rotate_left
  · repeat (first
        | exact Line.nil
        | (refine' Line.cons rfl (.no rfl rfl rfl rfl rfl rfl) ?_; rotate_left)
        | ((first | refine' Line.cons rfl (.run rfl rfl ?_) ?_ | refine' Line.cons rfl (.yes rfl rfl rfl rfl ?_) ?_)
           any_goals (first | exact cMove rfl rfl | exact cAssign rfl rfl | exact cNot rfl rfl | exact cPickT rfl rfl rfl | exact cPickF rfl rfl rfl | exact cNeq rfl rfl rfl)
           rotate_left))
  intro a w3 hF hb hN
  have hBs := hB.size
  replace hB := hB.trans (hb.mono hB.size)
  dsimp only [ext, Option.getD] at hF
  repeat with_reducible first | refine wp_seq ?_ | refine nThen ?_ | refine wp_ret ?_ | refine rThen ?_
  refine ret2 hF rfl rfl rfl fun a b ha hb => ?_
  exact ⟨_, rfl, ⟨[a, b], rfl, ha, hb, trivial⟩, hB⟩
set_option maxRecDepth 100000 in
set_option maxHeartbeats 4000000 in
theorem rdiffer_ty (sd : Nat) (A B : List (List Cl)) (hsd : sd < 18446744073709551616) (g1 : goodSt A = true) (g2 : goodSt B = true) : Fn2 Tryd.prog 12 (Ty.stra 72 114 sd A) (Ty.stra 72 114 sd B) (Ty.tup [Ty.ex (.int .i64 (difGo sd A B 10 0 : Nat)), Ty.ex (.int .i64 0)]) := by
  refine ⟨fun args w => by kernel_rfl, fun w v u ⟨s, hv, hs⟩ ⟨s2, hu, hs2⟩ => ?_⟩
  subst hv hu
  obtain ⟨lA, hA⟩ := goodSt_get g1
  obtain ⟨lB, hBn⟩ := goodSt_get g2
  have gA := rsgood_ty sd A (by omega)
  have gB := rsgood_ty sd B (by omega)
  rw [g1] at gA
  rw [g2] at gB
  let TA := Ty.tabs 72 114 sd A
  let TB := Ty.tabs 72 114 sd B
  let PA := Ty.straP StTR 72 114 sd A
  let PB := Ty.straP StTR 72 114 sd B
  refine enter_ty 75 [Ty.ex (.agg #[.int .u64 (sd : Int), s]), Ty.ex (.agg #[.int .u64 (sd : Int), s2])] Tryd.func12 rfl (by kernel_rfl) ⟨rfl, rfl, trivial⟩ fun a hF => ?_
  have hB := Below.refl w.heap.size w
  repeat with_reducible first | refine wp_seq ?_ | refine nThen ?_ | refine nBlk ?_ | refine wp_skip ?_ | refine wp_block ?_ | refine wp_exit ?_ | refine xThen ?_ | refine xHere ?_ | refine wp_ret ?_ | refine rThen ?_ | refine rBlk ?_
  refine' reg_all hF ?_ mixed (by kernel_rfl) ?_
  rotate_left
  · repeat (first
        | exact Line.nil
        | ((first | refine' Line.cons rfl (.run rfl rfl ?_) ?_ | refine' Line.cons rfl (.yes rfl rfl rfl rfl ?_) ?_)
           any_goals (first | exact cMove rfl rfl | exact cAssign rfl rfl | exact cNot rfl rfl | exact cBoxTab rfl rfl | exact cPickF rfl rfl rfl | exact cLeq rfl rfl rfl | exact cGtr rfl rfl rfl | exact cGeq rfl rfl rfl | exact cEql rfl rfl rfl | exact cNeq rfl rfl rfl | exact cExtract rfl rfl rfl)
           rotate_left))
  intro a w1 hF hb hN
  have hBs := hB.size
  replace hB := hB.trans (hb.mono hB.size)
  dsimp only [ext, Option.getD] at hF
  repeat with_reducible first | refine wp_seq ?_ | refine nThen ?_ | refine nBlk ?_ | refine wp_skip ?_ | refine wp_block ?_ | refine wp_exit ?_ | refine xThen ?_ | refine xHere ?_ | refine wp_ret ?_ | refine rThen ?_ | refine rBlk ?_
  obtain ⟨p2, hp2, hF⟩ := hF.open (s := 2) rfl
  obtain ⟨p3, hp3, hF⟩ := hF.open (s := 3) rfl
  have hp2 : PA.p w1 p2 := ⟨s, hp2, TA.below hs hB⟩
  have hp3 : PB.p w1 p3 := ⟨s2, hp3, TB.below hs2 hB⟩
  have hB1 := hB
  replace hB := Below.refl w1.heap.size w1
  refine' reg_all hF ?_ mixed (by kernel_rfl) ?_
  rotate_left
  · repeat (first
        | exact Line.nil
        | ((first | refine' Line.cons rfl (.run rfl rfl ?_) ?_ | refine' Line.cons rfl (.yes rfl rfl rfl rfl ?_) ?_)
           any_goals (first | exact cMove rfl rfl | exact cAssign rfl rfl | exact cNot rfl rfl | exact cLoadStR rfl (.l rfl hp2) | exact cLoadStR rfl (.l rfl hp3) | exact cCall1 rfl rfl gA | exact cCall1 rfl rfl gB | exact cStraSR rfl (.l rfl hp2) | exact cStraSR rfl (.l rfl hp3) | exact cLoadU64 rfl (.t rfl) | exact OpOk.b (c := false) (cNeq rfl rfl rfl) (by simp) | exact cPickF rfl rfl rfl | exact cLeq rfl rfl rfl | exact cGtr rfl rfl rfl | exact cGeq rfl rfl rfl | exact cEql rfl rfl rfl | exact cNeq rfl rfl rfl | exact cExtract rfl rfl rfl)
           rotate_left))
  intro a w2 hF hb hN
  have hBs := hB.size
  replace hB := hB.trans (hb.mono hB.size)
  dsimp only [ext, Option.getD] at hF
  repeat with_reducible first | refine wp_seq ?_ | refine nThen ?_ | refine nBlk ?_ | refine wp_skip ?_ | refine wp_block ?_ | refine wp_exit ?_ | refine xThen ?_ | refine xHere ?_ | refine wp_ret ?_ | refine rThen ?_ | refine rBlk ?_
  refine cond_f hF rfl ?_
  repeat with_reducible first | refine wp_seq ?_ | refine nThen ?_ | refine nBlk ?_ | refine wp_skip ?_ | refine wp_block ?_ | refine wp_exit ?_ | refine xThen ?_ | refine xHere ?_ | refine wp_ret ?_ | refine rThen ?_ | refine rBlk ?_
  refine' reg_all hF ?_ mixed (by kernel_rfl) ?_
  rotate_left
  · repeat (first
        | exact Line.nil
        | ((first | refine' Line.cons rfl (.run rfl rfl ?_) ?_ | refine' Line.cons rfl (.yes rfl rfl rfl rfl ?_) ?_)
           any_goals (first | exact cMove rfl rfl | exact cAssign rfl rfl | exact cNot rfl rfl | exact cPickF rfl rfl rfl | exact cLeq rfl rfl rfl | exact cGtr rfl rfl rfl | exact cGeq rfl rfl rfl | exact cEql rfl rfl rfl | exact cNeq rfl rfl rfl | exact cExtract rfl rfl rfl)
           rotate_left))
  intro a w3 hF hb hN
  have hBs := hB.size
  replace hB := hB.trans (hb.mono hB.size)
  dsimp only [ext, Option.getD] at hF
  repeat with_reducible first | refine wp_seq ?_ | refine nThen ?_ | refine nBlk ?_ | refine wp_skip ?_ | refine wp_block ?_ | refine wp_exit ?_ | refine xThen ?_ | refine xHere ?_ | refine wp_ret ?_ | refine rThen ?_ | refine rBlk ?_
  refine' reg_all hF ?_ mixed (by kernel_rfl) ?_
  rotate_left
  · repeat (first
        | exact Line.nil
        | ((first | refine' Line.cons rfl (.run rfl rfl ?_) ?_ | refine' Line.cons rfl (.yes rfl rfl rfl rfl ?_) ?_)
           any_goals (first | exact cMove rfl rfl | exact cAssign rfl rfl | exact cNot rfl rfl | exact cPickF rfl rfl rfl | exact cLeq rfl rfl rfl | exact cGtr rfl rfl rfl | exact cGeq rfl rfl rfl | exact cEql rfl rfl rfl | exact cNeq rfl rfl rfl | exact cExtract rfl rfl rfl)
           rotate_left))
  intro a w4 hF hb hN
  have hBs := hB.size
  replace hB := hB.trans (hb.mono hB.size)
  dsimp only [ext, Option.getD] at hF
  repeat with_reducible first | refine wp_seq ?_ | refine nThen ?_ | refine nBlk ?_ | refine wp_skip ?_ | refine wp_block ?_ | refine wp_exit ?_ | refine xThen ?_ | refine xHere ?_ | refine wp_ret ?_ | refine rThen ?_ | refine rBlk ?_
  refine loop_ty (fun k a wr => ∃ n : Nat, k ≤ 10 ∧ n + 2050 * k ≤ 20500 ∧ difGo sd A B k n = difGo sd A B 10 0 ∧ Fr 75 [(2, Ty.ex p2), (3, Ty.ex p3), (6, Ty.ex (.int .i64 (n : Int))), (7, Ty.ex (.int .i64 ((k : Int) - 1)))] a wr ∧ Below w1.heap.size w1 wr) 10 ?_ ?_
  · exact ⟨0, by omega, by omega, rfl, hF.keep [2, 3, 6, 7], hB⟩
  clear hF hB
  rintro k a wr ⟨n, hk, hn, hgo, hF, hB⟩
  repeat with_reducible first | refine wp_seq ?_ | refine nThen ?_ | refine nBlk ?_ | refine wp_skip ?_ | refine wp_block ?_ | refine wp_exit ?_ | refine xThen ?_ | refine xHere ?_ | refine wp_ret ?_ | refine rThen ?_ | refine rBlk ?_
  refine' reg_all hF ?_ mixed (by kernel_rfl) ?_
  rotate_left
  · repeat (first
        | exact Line.nil
        | ((first | refine' Line.cons rfl (.run rfl rfl ?_) ?_ | refine' Line.cons rfl (.yes rfl rfl rfl rfl ?_) ?_)
           any_goals (first | exact cMove rfl rfl | exact cAssign rfl rfl | exact cNot rfl rfl | exact cPickF rfl rfl rfl | exact cLeq rfl rfl rfl | exact cGtr rfl rfl rfl | exact cGeq rfl rfl rfl | exact cEql rfl rfl rfl | exact cNeq rfl rfl rfl | exact cExtract rfl rfl rfl)
           rotate_left))
  intro a w5 hF hb hN
  have hBs := hB.size
  replace hB := hB.trans (hb.mono hB.size)
  dsimp only [ext, Option.getD] at hF
  repeat with_reducible first | refine wp_seq ?_ | refine nThen ?_ | refine nBlk ?_ | refine wp_skip ?_ | refine wp_block ?_ | refine wp_exit ?_ | refine xThen ?_ | refine xHere ?_ | refine wp_ret ?_ | refine rThen ?_ | refine rBlk ?_
  rcases k with _ | i
  · refine cond_ty hF rfl (fun h => absurd (of_decide_eq_true h) (by omega)) fun _ => ?_
    rw [← hgo]
    repeat with_reducible first | refine wp_seq ?_ | refine nThen ?_ | refine nBlk ?_ | refine wp_skip ?_ | refine wp_block ?_ | refine wp_exit ?_ | refine xThen ?_ | refine xHere ?_ | refine wp_ret ?_ | refine rThen ?_ | refine rBlk ?_
    refine' reg_all hF ?_ mixed (by kernel_rfl) ?_
    rotate_left
    · repeat (first
          | exact Line.nil
          | ((first | refine' Line.cons rfl (.run rfl rfl ?_) ?_ | refine' Line.cons rfl (.yes rfl rfl rfl rfl ?_) ?_)
             any_goals (first | exact cMove rfl rfl | exact cAssign rfl rfl | exact cNot rfl rfl | exact cPickF rfl rfl rfl | exact cLeq rfl rfl rfl | exact cGtr rfl rfl rfl | exact cGeq rfl rfl rfl | exact cEql rfl rfl rfl | exact cNeq rfl rfl rfl | exact cExtract rfl rfl rfl)
             rotate_left))
    intro a w6 hF hb hN
    have hBs := hB.size
    replace hB := hB.trans (hb.mono hB.size)
    dsimp only [ext, Option.getD] at hF
    repeat with_reducible first | refine wp_seq ?_ | refine nThen ?_ | refine nBlk ?_ | refine wp_skip ?_ | refine wp_block ?_ | refine wp_exit ?_ | refine xThen ?_ | refine xHere ?_ | refine wp_ret ?_ | refine rThen ?_ | refine rBlk ?_
    refine ret2 hF rfl rfl rfl fun a b ha hb => ?_
    exact ⟨_, rfl, ⟨[a, b], rfl, ha, hb, trivial⟩, hB1.trans (hB.mono hB1.size)⟩
  refine cond_ty hF rfl (fun _ => ?_) fun h => absurd (of_decide_eq_false h) (by omega)
  rw [show ((i + 1 : Nat) : Int) - 1 = (i : Int) by omega] at hF
  repeat with_reducible first | refine wp_seq ?_ | refine nThen ?_ | refine nBlk ?_ | refine wp_skip ?_ | refine wp_block ?_ | refine wp_exit ?_ | refine xThen ?_ | refine xHere ?_ | refine wp_ret ?_ | refine rThen ?_ | refine rBlk ?_
  have hq2 := PA.below hp2 hB
  have hq3 := PB.below hp3 hB
  have m1 := r13minus_ty sd sd (A.getD i []) (B.getD i [])
  have hg : goodN ((A.getD i []).length : Int) = true := by rw [hA i (by omega)]; exact g24
  have k1 := minOk_good (s := sd) hg ((hA i (by omega)).trans (hBn i (by omega)).symm)
  rw [minL_good k1, minS_good k1, minE_good k1] at m1
  have eD : tminus (A.getD i []) (B.getD i []) = difD A B i := rfl
  rw [eD] at m1
  have hAll := rpeel_ty sd (difD A B i) hsd
  have hgo' : difGo sd A B (i + 1) n = if resN sd (difD A B i) = 0 then difGo sd A B i (n + difC sd A B i) else min ((if n = 0 then 24 else n) * 2 ^ (i + 1)) 1024 := rfl
  have hC : difC sd A B i = (resP sd (difD A B i)).length + (resM sd (difD A B i)).length := rfl
  rw [hC] at hgo'
  rw [hgo'] at hgo
  clear eD k1 hg hgo' hC
  have hPl := resP_len (seed := sd) (L := difD A B i)
  have hQl := resM_len (seed := sd) (L := difD A B i)
  generalize difD A B i = D at *
  generalize resN sd D = en at *
  generalize resP sd D = P at *
  generalize resM sd D = M at *
  generalize resS sd D = rs at *
  generalize resL sd D = RL at *
  have hiA : i < A.length := by omega
  have hiB : i < B.length := by omega
  refine' region_st 15 13 (dq := 45) (sp := .tmp 8) (sy := .tmp 44) mixed (by kernel_rfl) (by kernel_rfl) hF rfl rfl rfl rfl rfl rfl (fun a v => ⟨put_far rfl a v, put_far rfl a v⟩) ?_ ?_
  rotate_left
  · simp only [List.take_succ_cons, List.take_zero]
    repeat (first
        | exact Line.nil
        | (refine' Line.cons rfl (.new rfl rfl (run_alloc_i infoT83) rfl) ?_; rotate_left)
        | ((first | refine' Line.cons rfl (.run rfl rfl ?_) ?_ | refine' Line.cons rfl (.yes rfl rfl rfl rfl ?_) ?_)
           any_goals (first | exact cMove rfl rfl | exact cAssign rfl rfl | exact cNot rfl rfl | exact cStraLR rfl (.l rfl hq2) | exact cStraLR rfl (.l rfl hq3) | exact cLoadTsR rfl (.t rfl) | exact cIdxTR (k := i) rfl (.t rfl) rfl hiA | exact cIdxTR (k := i) rfl (.t rfl) rfl hiB | exact cLoadTab83 rfl (.t rfl) | exact cCallR2 rfl (.t rfl) (.t rfl) m1 (tabE_olds _ _ _ _) | exact cExtT rfl rfl | exact cExtE rfl rfl | exact cPickF rfl rfl rfl | exact cLeq rfl rfl rfl | exact cGtr rfl rfl rfl | exact cGeq rfl rfl rfl | exact cEql rfl rfl rfl | exact cNeq rfl rfl rfl | exact cExtract rfl rfl rfl)
           rotate_left))
  intro a w7 hF hb hN
  have hBs := hB.size
  replace hB := hB.trans (hb.mono hB.size)
  simp only [List.take_succ_cons, List.take_zero, List.drop_succ_cons, List.drop_zero] at hF hN ⊢
  dsimp only [ext, Option.getD] at hF
  obtain ⟨z, ⟨g8, rfl, hg8, hb8⟩, hF⟩ := hF.open (s := 8) rfl
  obtain ⟨z, ⟨s43, rfl, S43, hs43, hS43⟩, hF⟩ := hF.open (s := 44) rfl
  have hg8w : w1.heap.size ≤ g8 := Nat.le_trans (hBs) hg8
  refine store_st (Δ := [(2, Ty.ex p2), (3, Ty.ex p3), (6, Ty.ex (.int .i64 (n : Int))), (7, Ty.ex (.int .i64 (i : Int))), (8, Ty.ex (.pointer (some ⟨g8, 0, none⟩))), (45, Ty.ex (.int .i64 0))]) hF rfl rfl rfl (hF.getEx (s := 44) rfl) hb8 rfl sizeT83 (sl_one hs43.sl _) (hF.keep [2, 3, 6, 7, 8, 45]) rfl ?_
  intro w8 hF hb8' hkx
  replace hs43 := hs43.keeps hkx (seg_far hs43 hb8 (by decide))
  replace hB := below_own hB hkx (by intro y hy; simp only [List.mem_singleton] at hy; omega)
  replace hb8 : Blk w8 g8 72 #[.int .u64 (sd : Int), s43] := hb8'
  replace hF := hF.as hF (s := 8) (σ := Ty.tabP 72 114 sd D) rfl (fun v hv => by
    have hv : v = .pointer (some ⟨g8, 0, none⟩) := hv
    subst hv
    exact ⟨s43, ⟨g8, 0, _, (0, 0), rfl, hb8, fun j u h => by simpa using h⟩, hs43.sl⟩)
  clear hb8' hkx hb8 hs43 hS43
  refine' tlOp hF rfl rfl rfl ?_ ?_
  rotate_left
  · first | exact cMove rfl rfl | exact cAssign rfl rfl | exact cPickF rfl rfl rfl | exact cNot rfl rfl | exact cLeq rfl rfl rfl | exact cGtr rfl rfl rfl | exact cGeq rfl rfl rfl | exact cEql rfl rfl rfl | exact cNeq rfl rfl rfl | exact cExtract rfl rfl rfl
  intro a w9 hF hb
  have hBs := hB.size
  replace hB := hB.trans (hb.mono hB.size)
  try (refine wpList_nil ?_)
  repeat with_reducible first | refine wp_seq ?_ | refine nThen ?_ | refine nBlk ?_ | refine wp_skip ?_ | refine wp_block ?_ | refine wp_exit ?_ | refine xThen ?_ | refine xHere ?_ | refine wp_ret ?_ | refine rThen ?_ | refine rBlk ?_
  refine wp_region_lit ?_
  refine' tlOp hF rfl rfl rfl ?_ ?_
  rotate_left
  · first | exact cMove rfl rfl | exact cLoadTab83 rfl (.t rfl) | exact cCall1 rfl rfl hAll
  intro a w10_0 hF hb
  replace hB := hB.trans (hb.mono hB.size)
  refine' tlOp hF rfl rfl rfl ?_ ?_
  rotate_left
  · first | exact cMove rfl rfl | exact cLoadTab83 rfl (.t rfl) | exact cCall1 rfl rfl hAll
  intro a w10_1 hF hb
  replace hB := hB.trans (hb.mono hB.size)
  refine' tlOp hF rfl rfl rfl ?_ ?_
  rotate_left
  · first | exact cMove rfl rfl | exact cLoadTab83 rfl (.t rfl) | exact cCall1 rfl rfl hAll
  intro a w10_2 hF hb
  replace hB := hB.trans (hb.mono hB.size)
  refine' tlOp hF rfl rfl rfl ?_ ?_
  rotate_left
  · exact cExtract rfl rfl rfl
  intro a w10_t hF hb
  replace hB := hB.trans (hb.mono hB.size)
  refine' tlOp hF rfl rfl rfl ?_ ?_
  rotate_left
  · exact cExtract rfl rfl rfl
  intro a w10_e hF hb
  replace hB := hB.trans (hb.mono hB.size)
  refine tlNewResR hF rfl rfl rfl (by decide) rfl rfl rfl rfl rfl fun a w10_n hF hb => ?_
  replace hB := hB.trans (hb.mono hB.size)
  refine' tlOp hF rfl rfl rfl ?_ ?_
  rotate_left
  · exact cAssign rfl rfl
  intro a w10 hF hb
  replace hB := hB.trans (hb.mono hB.size)
  try (refine wpList_nil ?_)
  repeat with_reducible first | refine wp_seq ?_ | refine nThen ?_ | refine nBlk ?_ | refine wp_skip ?_ | refine wp_block ?_ | refine wp_exit ?_ | refine xThen ?_ | refine xHere ?_ | refine wp_ret ?_ | refine rThen ?_ | refine rBlk ?_
  by_cases h0 : en = 0
  rotate_left
  · rw [if_neg h0] at hgo
    rw [← hgo]
    obtain ⟨c, hc⟩ : ∃ c, c = if n = 0 then 24 else n := ⟨_, rfl⟩
    rw [← hc]
    have hc1 : c ≤ 20500 := by split at hc <;> omega
    refine' reg_all hF ?_ mixed (by kernel_rfl) ?_
    rotate_left
    · repeat (first
          | exact Line.nil
          | ((first | refine' Line.cons rfl (.run rfl rfl ?_) ?_ | refine' Line.cons rfl (.yes rfl rfl rfl rfl ?_) ?_)
             any_goals (first | exact cMove rfl rfl | exact cAssign rfl rfl | exact cNot rfl rfl | exact OpOk.b (c := true) (cNeq rfl rfl rfl) (by rw [decide_eq_false h0]; rfl) | exact cPickF rfl rfl rfl | exact cLeq rfl rfl rfl | exact cGtr rfl rfl rfl | exact cGeq rfl rfl rfl | exact cEql rfl rfl rfl | exact cNeq rfl rfl rfl | exact cExtract rfl rfl rfl)
             rotate_left))
    intro a w11 hF hb hN
    have hBs := hB.size
    replace hB := hB.trans (hb.mono hB.size)
    dsimp only [ext, Option.getD] at hF
    repeat with_reducible first | refine wp_seq ?_ | refine nThen ?_ | refine nBlk ?_ | refine wp_skip ?_ | refine wp_block ?_ | refine wp_exit ?_ | refine xThen ?_ | refine xHere ?_ | refine wp_ret ?_ | refine rThen ?_ | refine rBlk ?_
    refine cond_t hF rfl ?_
    repeat with_reducible first | refine wp_seq ?_ | refine nThen ?_ | refine nBlk ?_ | refine wp_skip ?_ | refine wp_block ?_ | refine wp_exit ?_ | refine xThen ?_ | refine xHere ?_ | refine wp_ret ?_ | refine rThen ?_ | refine rBlk ?_
    refine' reg_all hF ?_ mixed (by kernel_rfl) ?_
    rotate_left
    · repeat (first
          | exact Line.nil
          | ((first | refine' Line.cons rfl (.run rfl rfl ?_) ?_ | refine' Line.cons rfl (.yes rfl rfl rfl rfl ?_) ?_)
             any_goals (first | exact cMove rfl rfl | exact cAssign rfl rfl | exact cNot rfl rfl | exact OpOk.b (c := decide (n = 0)) (cEql rfl rfl rfl) (decide_eq_decide.2 (by omega)) | exact cPickF rfl rfl rfl | exact cLeq rfl rfl rfl | exact cGtr rfl rfl rfl | exact cGeq rfl rfl rfl | exact cEql rfl rfl rfl | exact cNeq rfl rfl rfl | exact cExtract rfl rfl rfl)
             rotate_left))
    intro a w12 hF hb hN
    have hBs := hB.size
    replace hB := hB.trans (hb.mono hB.size)
    dsimp only [ext, Option.getD] at hF
    repeat with_reducible first | refine wp_seq ?_ | refine nThen ?_ | refine nBlk ?_ | refine wp_skip ?_ | refine wp_block ?_ | refine wp_exit ?_ | refine xThen ?_ | refine xHere ?_ | refine wp_ret ?_ | refine rThen ?_ | refine rBlk ?_
    refine wp_mono (Q := fun e a w' => e = .normal ∧ Fr 75 [(6, Ty.ex (.int .i64 (c : Int))), (7, Ty.ex (.int .i64 (i : Int)))] a w' ∧ Below w1.heap.size w1 w') ?_ ?_
    · by_cases hn0 : n = 0
      · rw [if_pos hn0] at hc
        rw [decide_eq_true hn0] at hF
        refine cond_t hF rfl ?_
        repeat with_reducible first | refine wp_seq ?_ | refine nThen ?_ | refine nBlk ?_ | refine wp_skip ?_ | refine wp_block ?_ | refine wp_exit ?_ | refine xThen ?_ | refine xHere ?_ | refine wp_ret ?_ | refine rThen ?_ | refine rBlk ?_
        refine' reg_all hF ?_ mixed (by kernel_rfl) ?_
        rotate_left
        · repeat (first
              | exact Line.nil
              | ((first | refine' Line.cons rfl (.run rfl rfl ?_) ?_ | refine' Line.cons rfl (.yes rfl rfl rfl rfl ?_) ?_)
                 any_goals (first | exact cMove rfl rfl | exact cAssign rfl rfl | exact cNot rfl rfl | exact cPickF rfl rfl rfl | exact cLeq rfl rfl rfl | exact cGtr rfl rfl rfl | exact cGeq rfl rfl rfl | exact cEql rfl rfl rfl | exact cNeq rfl rfl rfl | exact cExtract rfl rfl rfl)
                 rotate_left))
        intro a w13 hF hb hN
        have hBs := hB.size
        replace hB := hB.trans (hb.mono hB.size)
        dsimp only [ext, Option.getD] at hF
        repeat with_reducible first | refine wp_seq ?_ | refine nThen ?_ | refine nBlk ?_ | refine wp_skip ?_ | refine wp_block ?_ | refine wp_exit ?_ | refine xThen ?_ | refine xHere ?_ | refine wp_ret ?_ | refine rThen ?_ | refine rBlk ?_
        exact ⟨rfl, by rw [hc]; exact hF.keep [6, 7], hB⟩
      · rw [if_neg hn0] at hc
        rw [decide_eq_false hn0] at hF
        refine cond_f hF rfl ?_
        repeat with_reducible first | refine wp_seq ?_ | refine nThen ?_ | refine nBlk ?_ | refine wp_skip ?_ | refine wp_block ?_ | refine wp_exit ?_ | refine xThen ?_ | refine xHere ?_ | refine wp_ret ?_ | refine rThen ?_ | refine rBlk ?_
        exact ⟨rfl, by rw [hc]; exact hF.keep [6, 7], hB⟩
    clear hF hB
    rintro e a w13 ⟨rfl, hF, hB⟩
    repeat with_reducible first | refine wp_seq ?_ | refine nThen ?_ | refine nBlk ?_ | refine wp_skip ?_ | refine wp_block ?_ | refine wp_exit ?_ | refine xThen ?_ | refine xHere ?_ | refine wp_ret ?_ | refine rThen ?_ | refine rBlk ?_
    refine' reg_all hF ?_ mixed (by kernel_rfl) ?_
    rotate_left
    · repeat (first
          | exact Line.nil
          | ((first | refine' Line.cons rfl (.run rfl rfl ?_) ?_ | refine' Line.cons rfl (.yes rfl rfl rfl rfl ?_) ?_)
             any_goals (first | exact cMove rfl rfl | exact cAssign rfl rfl | exact cNot rfl rfl | exact cPickF rfl rfl rfl | exact cLeq rfl rfl rfl | exact cGtr rfl rfl rfl | exact cGeq rfl rfl rfl | exact cEql rfl rfl rfl | exact cNeq rfl rfl rfl | exact cExtract rfl rfl rfl)
             rotate_left))
    intro a w14 hF hb hN
    have hBs := hB.size
    replace hB := hB.trans (hb.mono hB.size)
    dsimp only [ext, Option.getD] at hF
    repeat with_reducible first | refine wp_seq ?_ | refine nThen ?_ | refine nBlk ?_ | refine wp_skip ?_ | refine wp_block ?_ | refine wp_exit ?_ | refine xThen ?_ | refine xHere ?_ | refine wp_ret ?_ | refine rThen ?_ | refine rBlk ?_
    refine loop_ty (fun m a wr => ∃ k : Nat, k + m = i + 1 ∧ Fr 75 [(6, Ty.ex (.int .i64 ((c * 2 ^ k : Nat) : Int))), (7, Ty.ex (.int .i64 (i : Int))), (12, Ty.ex (.int .i64 (k : Int)))] a wr ∧ Below w1.heap.size w1 wr) (i + 1) ?_ ?_
    · exact ⟨0, by omega, by rw [Nat.pow_zero, Nat.mul_one]; exact hF.keep [6, 7, 12], hB⟩
    clear hF hB
    rintro m a wr ⟨k, hkm, hF, hB⟩
    repeat with_reducible first | refine wp_seq ?_ | refine nThen ?_ | refine nBlk ?_ | refine wp_skip ?_ | refine wp_block ?_ | refine wp_exit ?_ | refine xThen ?_ | refine xHere ?_ | refine wp_ret ?_ | refine rThen ?_ | refine rBlk ?_
    refine' reg_all hF ?_ mixed (by kernel_rfl) ?_
    rotate_left
    · repeat (first
          | exact Line.nil
          | ((first | refine' Line.cons rfl (.run rfl rfl ?_) ?_ | refine' Line.cons rfl (.yes rfl rfl rfl rfl ?_) ?_)
             any_goals (first | exact cMove rfl rfl | exact cAssign rfl rfl | exact cNot rfl rfl | exact cPickF rfl rfl rfl | exact cLeq rfl rfl rfl | exact cGtr rfl rfl rfl | exact cGeq rfl rfl rfl | exact cEql rfl rfl rfl | exact cNeq rfl rfl rfl | exact cExtract rfl rfl rfl)
             rotate_left))
    intro a w15 hF hb hN
    have hBs := hB.size
    replace hB := hB.trans (hb.mono hB.size)
    dsimp only [ext, Option.getD] at hF
    repeat with_reducible first | refine wp_seq ?_ | refine nThen ?_ | refine nBlk ?_ | refine wp_skip ?_ | refine wp_block ?_ | refine wp_exit ?_ | refine xThen ?_ | refine xHere ?_ | refine wp_ret ?_ | refine rThen ?_ | refine rBlk ?_
    refine cond_ty hF rfl (fun hle => ?_) (fun hgt => ?_)
    · have hle : k ≤ i := by have := of_decide_eq_true hle; omega
      have hpw : 2 ^ k ≤ 2 ^ 9 := Nat.pow_le_pow_right (by decide) (by omega)
      have hm : c * 2 ^ k ≤ 20500 * 512 := Nat.mul_le_mul hc1 hpw
      have hnx : c * 2 ^ (k + 1) = 2 * (c * 2 ^ k) := by rw [Nat.pow_succ, ← Nat.mul_assoc, Nat.mul_comm]
      obtain ⟨d, hd⟩ : ∃ d, c * 2 ^ k = d := ⟨_, rfl⟩
      rw [hd] at hF hm hnx
      repeat with_reducible first | refine wp_seq ?_ | refine nThen ?_ | refine nBlk ?_ | refine wp_skip ?_ | refine wp_block ?_ | refine wp_exit ?_ | refine xThen ?_ | refine xHere ?_ | refine wp_ret ?_ | refine rThen ?_ | refine rBlk ?_
      refine' reg_all hF ?_ mixed (by kernel_rfl) ?_
      rotate_left
      · repeat (first
            | exact Line.nil
            | ((first | refine' Line.cons rfl (.run rfl rfl ?_) ?_ | refine' Line.cons rfl (.yes rfl rfl rfl rfl ?_) ?_)
               any_goals (first | exact cMove rfl rfl | exact cAssign rfl rfl | exact cNot rfl rfl | exact cMul (r := ((2 * d : Nat) : Int)) rfl rfl rfl (by omega) | exact cPickF rfl rfl rfl | exact cLeq rfl rfl rfl | exact cGtr rfl rfl rfl | exact cGeq rfl rfl rfl | exact cEql rfl rfl rfl | exact cNeq rfl rfl rfl | exact cExtract rfl rfl rfl)
               rotate_left))
      intro a w16 hF hb hN
      have hBs := hB.size
      replace hB := hB.trans (hb.mono hB.size)
      dsimp only [ext, Option.getD] at hF
      repeat with_reducible first | refine wp_seq ?_ | refine nThen ?_ | refine nBlk ?_ | refine wp_skip ?_ | refine wp_block ?_ | refine wp_exit ?_ | refine xThen ?_ | refine xHere ?_ | refine wp_ret ?_ | refine rThen ?_ | refine rBlk ?_
      refine' reg_all hF ?_ mixed (by kernel_rfl) ?_
      rotate_left
      · repeat (first
            | exact Line.nil
            | ((first | refine' Line.cons rfl (.run rfl rfl ?_) ?_ | refine' Line.cons rfl (.yes rfl rfl rfl rfl ?_) ?_)
               any_goals (first | exact cMove rfl rfl | exact cAssign rfl rfl | exact cNot rfl rfl | exact cAdd (r := ((k + 1 : Nat) : Int)) rfl rfl rfl (by omega) | exact cPickF rfl rfl rfl | exact cLeq rfl rfl rfl | exact cGtr rfl rfl rfl | exact cGeq rfl rfl rfl | exact cEql rfl rfl rfl | exact cNeq rfl rfl rfl | exact cExtract rfl rfl rfl)
               rotate_left))
      intro a w17 hF hb hN
      have hBs := hB.size
      replace hB := hB.trans (hb.mono hB.size)
      dsimp only [ext, Option.getD] at hF
      repeat with_reducible first | refine wp_seq ?_ | refine nThen ?_ | refine nBlk ?_ | refine wp_skip ?_ | refine wp_block ?_ | refine wp_exit ?_ | refine xThen ?_ | refine xHere ?_ | refine wp_ret ?_ | refine rThen ?_ | refine rBlk ?_
      exact ⟨m - 1, by omega, k + 1, by omega, by rw [hnx]; exact hF.keep [6, 7, 12], hB⟩
    · have hgt : ¬ k ≤ i := fun h => by have := of_decide_eq_false hgt; omega
      have hpw : 2 ^ (i + 1) ≤ 2 ^ 10 := Nat.pow_le_pow_right (by decide) (by omega)
      have hm : c * 2 ^ (i + 1) ≤ 20500 * 1024 := Nat.mul_le_mul hc1 hpw
      obtain ⟨d, hd⟩ : ∃ d, c * 2 ^ (i + 1) = d := ⟨_, rfl⟩
      have hki : k = i + 1 := by omega
      rw [hki, hd] at hF
      rw [hd] at hm ⊢
      repeat with_reducible first | refine wp_seq ?_ | refine nThen ?_ | refine nBlk ?_ | refine wp_skip ?_ | refine wp_block ?_ | refine wp_exit ?_ | refine xThen ?_ | refine xHere ?_ | refine wp_ret ?_ | refine rThen ?_ | refine rBlk ?_
      by_cases hd2 : 1024 < d
      · refine' reg_all hF ?_ mixed (by kernel_rfl) ?_
        rotate_left
        · repeat (first
              | exact Line.nil
              | ((first | refine' Line.cons rfl (.run rfl rfl ?_) ?_ | refine' Line.cons rfl (.yes rfl rfl rfl rfl ?_) ?_)
                 any_goals (first | exact cMove rfl rfl | exact cAssign rfl rfl | exact cNot rfl rfl | exact OpOk.b (c := true) (cGtr rfl rfl rfl) (decide_eq_true (by omega)) | exact cPickF rfl rfl rfl | exact cLeq rfl rfl rfl | exact cGtr rfl rfl rfl | exact cGeq rfl rfl rfl | exact cEql rfl rfl rfl | exact cNeq rfl rfl rfl | exact cExtract rfl rfl rfl)
                 rotate_left))
        intro a w16 hF hb hN
        have hBs := hB.size
        replace hB := hB.trans (hb.mono hB.size)
        dsimp only [ext, Option.getD] at hF
        repeat with_reducible first | refine wp_seq ?_ | refine nThen ?_ | refine nBlk ?_ | refine wp_skip ?_ | refine wp_block ?_ | refine wp_exit ?_ | refine xThen ?_ | refine xHere ?_ | refine wp_ret ?_ | refine rThen ?_ | refine rBlk ?_
        refine cond_t hF rfl ?_
        repeat with_reducible first | refine wp_seq ?_ | refine nThen ?_ | refine nBlk ?_ | refine wp_skip ?_ | refine wp_block ?_ | refine wp_exit ?_ | refine xThen ?_ | refine xHere ?_ | refine wp_ret ?_ | refine rThen ?_ | refine rBlk ?_
        refine' reg_all hF ?_ mixed (by kernel_rfl) ?_
        rotate_left
        · repeat (first
              | exact Line.nil
              | ((first | refine' Line.cons rfl (.run rfl rfl ?_) ?_ | refine' Line.cons rfl (.yes rfl rfl rfl rfl ?_) ?_)
                 any_goals (first | exact cMove rfl rfl | exact cAssign rfl rfl | exact cNot rfl rfl | exact cPickF rfl rfl rfl | exact cLeq rfl rfl rfl | exact cGtr rfl rfl rfl | exact cGeq rfl rfl rfl | exact cEql rfl rfl rfl | exact cNeq rfl rfl rfl | exact cExtract rfl rfl rfl)
                 rotate_left))
        intro a w17 hF hb hN
        have hBs := hB.size
        replace hB := hB.trans (hb.mono hB.size)
        dsimp only [ext, Option.getD] at hF
        repeat with_reducible first | refine wp_seq ?_ | refine nThen ?_ | refine nBlk ?_ | refine wp_skip ?_ | refine wp_block ?_ | refine wp_exit ?_ | refine xThen ?_ | refine xHere ?_ | refine wp_ret ?_ | refine rThen ?_ | refine rBlk ?_
        refine' reg_all hF ?_ mixed (by kernel_rfl) ?_
        rotate_left
        · repeat (first
              | exact Line.nil
              | ((first | refine' Line.cons rfl (.run rfl rfl ?_) ?_ | refine' Line.cons rfl (.yes rfl rfl rfl rfl ?_) ?_)
                 any_goals (first | exact cMove rfl rfl | exact cAssign rfl rfl | exact cNot rfl rfl | exact cPickF rfl rfl rfl | exact cLeq rfl rfl rfl | exact cGtr rfl rfl rfl | exact cGeq rfl rfl rfl | exact cEql rfl rfl rfl | exact cNeq rfl rfl rfl | exact cExtract rfl rfl rfl)
                 rotate_left))
        intro a w18 hF hb hN
        have hBs := hB.size
        replace hB := hB.trans (hb.mono hB.size)
        dsimp only [ext, Option.getD] at hF
        repeat with_reducible first | refine wp_seq ?_ | refine nThen ?_ | refine nBlk ?_ | refine wp_skip ?_ | refine wp_block ?_ | refine wp_exit ?_ | refine xThen ?_ | refine xHere ?_ | refine wp_ret ?_ | refine rThen ?_ | refine rBlk ?_
        refine ret2 hF rfl rfl rfl fun a b ha hb => ?_
        exact ⟨_, rfl, ⟨[a, b], rfl, by rw [ha]; show _ = _; congr 1; omega, hb, trivial⟩, hB1.trans (hB.mono hB1.size)⟩
      · refine' reg_all hF ?_ mixed (by kernel_rfl) ?_
        rotate_left
        · repeat (first
              | exact Line.nil
              | ((first | refine' Line.cons rfl (.run rfl rfl ?_) ?_ | refine' Line.cons rfl (.yes rfl rfl rfl rfl ?_) ?_)
                 any_goals (first | exact cMove rfl rfl | exact cAssign rfl rfl | exact cNot rfl rfl | exact OpOk.b (c := false) (cGtr rfl rfl rfl) (decide_eq_false (by omega)) | exact cPickF rfl rfl rfl | exact cLeq rfl rfl rfl | exact cGtr rfl rfl rfl | exact cGeq rfl rfl rfl | exact cEql rfl rfl rfl | exact cNeq rfl rfl rfl | exact cExtract rfl rfl rfl)
                 rotate_left))
        intro a w16 hF hb hN
        have hBs := hB.size
        replace hB := hB.trans (hb.mono hB.size)
        dsimp only [ext, Option.getD] at hF
        repeat with_reducible first | refine wp_seq ?_ | refine nThen ?_ | refine nBlk ?_ | refine wp_skip ?_ | refine wp_block ?_ | refine wp_exit ?_ | refine xThen ?_ | refine xHere ?_ | refine wp_ret ?_ | refine rThen ?_ | refine rBlk ?_
        refine cond_f hF rfl ?_
        repeat with_reducible first | refine wp_seq ?_ | refine nThen ?_ | refine nBlk ?_ | refine wp_skip ?_ | refine wp_block ?_ | refine wp_exit ?_ | refine xThen ?_ | refine xHere ?_ | refine wp_ret ?_ | refine rThen ?_ | refine rBlk ?_
        refine' reg_all hF ?_ mixed (by kernel_rfl) ?_
        rotate_left
        · repeat (first
              | exact Line.nil
              | ((first | refine' Line.cons rfl (.run rfl rfl ?_) ?_ | refine' Line.cons rfl (.yes rfl rfl rfl rfl ?_) ?_)
                 any_goals (first | exact cMove rfl rfl | exact cAssign rfl rfl | exact cNot rfl rfl | exact cPickF rfl rfl rfl | exact cLeq rfl rfl rfl | exact cGtr rfl rfl rfl | exact cGeq rfl rfl rfl | exact cEql rfl rfl rfl | exact cNeq rfl rfl rfl | exact cExtract rfl rfl rfl)
                 rotate_left))
        intro a w18 hF hb hN
        have hBs := hB.size
        replace hB := hB.trans (hb.mono hB.size)
        dsimp only [ext, Option.getD] at hF
        repeat with_reducible first | refine wp_seq ?_ | refine nThen ?_ | refine nBlk ?_ | refine wp_skip ?_ | refine wp_block ?_ | refine wp_exit ?_ | refine xThen ?_ | refine xHere ?_ | refine wp_ret ?_ | refine rThen ?_ | refine rBlk ?_
        refine ret2 hF rfl rfl rfl fun a b ha hb => ?_
        exact ⟨_, rfl, ⟨[a, b], rfl, by rw [ha]; show _ = _; congr 1; omega, hb, trivial⟩, hB1.trans (hB.mono hB1.size)⟩
  rw [if_pos h0] at hgo
  refine' reg_all hF ?_ mixed (by kernel_rfl) ?_
  rotate_left
  · repeat (first
        | exact Line.nil
        | ((first | refine' Line.cons rfl (.run rfl rfl ?_) ?_ | refine' Line.cons rfl (.yes rfl rfl rfl rfl ?_) ?_)
           any_goals (first | exact cMove rfl rfl | exact cAssign rfl rfl | exact cNot rfl rfl | exact OpOk.b (c := false) (cNeq rfl rfl rfl) (by rw [decide_eq_true h0]; rfl) | exact cPickF rfl rfl rfl | exact cLeq rfl rfl rfl | exact cGtr rfl rfl rfl | exact cGeq rfl rfl rfl | exact cEql rfl rfl rfl | exact cNeq rfl rfl rfl | exact cExtract rfl rfl rfl)
           rotate_left))
  intro a w11 hF hb hN
  have hBs := hB.size
  replace hB := hB.trans (hb.mono hB.size)
  dsimp only [ext, Option.getD] at hF
  repeat with_reducible first | refine wp_seq ?_ | refine nThen ?_ | refine nBlk ?_ | refine wp_skip ?_ | refine wp_block ?_ | refine wp_exit ?_ | refine xThen ?_ | refine xHere ?_ | refine wp_ret ?_ | refine rThen ?_ | refine rBlk ?_
  refine cond_f hF rfl ?_
  repeat with_reducible first | refine wp_seq ?_ | refine nThen ?_ | refine nBlk ?_ | refine wp_skip ?_ | refine wp_block ?_ | refine wp_exit ?_ | refine xThen ?_ | refine xHere ?_ | refine wp_ret ?_ | refine rThen ?_ | refine rBlk ?_
  refine' reg_all hF ?_ mixed (by kernel_rfl) ?_
  rotate_left
  · repeat (first
        | exact Line.nil
        | ((first | refine' Line.cons rfl (.run rfl rfl ?_) ?_ | refine' Line.cons rfl (.yes rfl rfl rfl rfl ?_) ?_)
           any_goals (first | exact cMove rfl rfl | exact cAssign rfl rfl | exact cNot rfl rfl | exact cSelPR rfl (.t rfl) | exact cSelMR rfl (.t rfl) | exact cLoadSelR rfl rfl | exact cLenH rfl (.t rfl) (Ty.sl_isSl _ _ _) Tryd.underlying76 | exact cAdd (r := ((n + P.length : Nat) : Int)) rfl rfl rfl (by omega) | exact cAdd (r := ((n + (P.length + M.length) : Nat) : Int)) rfl rfl rfl (by omega) | exact cPickF rfl rfl rfl | exact cLeq rfl rfl rfl | exact cGtr rfl rfl rfl | exact cGeq rfl rfl rfl | exact cEql rfl rfl rfl | exact cNeq rfl rfl rfl | exact cExtract rfl rfl rfl)
           rotate_left))
  intro a w12 hF hb hN
  have hBs := hB.size
  replace hB := hB.trans (hb.mono hB.size)
  dsimp only [ext, Option.getD] at hF
  repeat with_reducible first | refine wp_seq ?_ | refine nThen ?_ | refine nBlk ?_ | refine wp_skip ?_ | refine wp_block ?_ | refine wp_exit ?_ | refine xThen ?_ | refine xHere ?_ | refine wp_ret ?_ | refine rThen ?_ | refine rBlk ?_
  refine' reg_all hF ?_ mixed (by kernel_rfl) ?_
  rotate_left
  · repeat (first
        | exact Line.nil
        | ((first | refine' Line.cons rfl (.run rfl rfl ?_) ?_ | refine' Line.cons rfl (.yes rfl rfl rfl rfl ?_) ?_)
           any_goals (first | exact cMove rfl rfl | exact cAssign rfl rfl | exact cNot rfl rfl | exact cSub (r := (i : Int) - 1) rfl rfl rfl (by omega) | exact cPickF rfl rfl rfl | exact cLeq rfl rfl rfl | exact cGtr rfl rfl rfl | exact cGeq rfl rfl rfl | exact cEql rfl rfl rfl | exact cNeq rfl rfl rfl | exact cExtract rfl rfl rfl)
           rotate_left))
  intro a w13 hF hb hN
  have hBs := hB.size
  replace hB := hB.trans (hb.mono hB.size)
  dsimp only [ext, Option.getD] at hF
  repeat with_reducible first | refine wp_seq ?_ | refine nThen ?_ | refine nBlk ?_ | refine wp_skip ?_ | refine wp_block ?_ | refine wp_exit ?_ | refine xThen ?_ | refine xHere ?_ | refine wp_ret ?_ | refine rThen ?_ | refine rBlk ?_
  exact ⟨i, by omega, n + (P.length + M.length), by omega, by omega, hgo, hF.keep [2, 3, 6, 7], hB⟩
end Go.Proofs.YtgmeagkolahkoaaDoor
