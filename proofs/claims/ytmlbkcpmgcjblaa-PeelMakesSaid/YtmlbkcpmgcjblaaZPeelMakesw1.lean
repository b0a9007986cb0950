/- Joined: RowS, RowC, TabQ, PeelO. -/
import Derived.Deep.Slices
import Derived.Deep.Strs
import Derived.Test.YtmlbkcpmgcjblaaZPeelY5
/- An argument that is a row of thirty-two bytes each, as a row of sums. -/
namespace Go.Proofs.Ytmlbkcpmgcjblaa
open Go.RowKit

end Go.Proofs.Ytmlbkcpmgcjblaa

/- An argument that is a row of cells. -/
namespace Go.Proofs.Ytmlbkcpmgcjblaa
open Go.RowKit

theorem cells_join65 {l : List Value} {v : Value} {K C : List Value} (h0 : (l.drop 0).take 1 = [v]) (h1 : (l.drop 1).take 32 = K) (h2 : (l.drop 33).take 32 = C) (hl : l.length = 65) : l = [v] ++ K ++ C := by
  subst h1 h2
  rw [← h0, List.drop_zero]
  have e1 : l = l.take 1 ++ l.drop 1 := (List.take_append_drop 1 l).symm
  have e2 : l.drop 1 = (l.drop 1).take 32 ++ (l.drop 1).drop 32 := (List.take_append_drop 32 _).symm
  have e3 : (l.drop 1).drop 32 = (l.drop 33).take 32 := by
    rw [List.drop_drop, List.take_of_length_le (by simp; omega)]
  rw [e3] at e2
  rw [List.append_assoc, ← e2, ← e1]
theorem cl_of_cells {H : Type} {enc : TypeId × Value → H} {W : World} {base : Nat} {sp : Nat → Bool} {held : Bool} {fuel : Nat} {cs : List Value} {x : DataW H × List MemPlace} (h : DataW.trod enc Try.prog W base sp held fuel 87 cs = some x) : ∃ c : Cl, cs = c.enc ∧ Norm c := by
  have hC : Try.prog.cellsOf 87 = 65 := by kernel_rfl
  have k2 : Try.prog.cellsOf 2 = 1 := by kernel_rfl
  have k27 : Try.prog.cellsOf 34 = 32 := by kernel_rfl
  obtain ⟨y0, y1, y2, n, _, hl, t0, t1, t2⟩ := Go.Deep.trod_struct3 Try.underlying87 h
  obtain ⟨n0, f0, _, hw⟩ := DataW.trod_int Try.underlying2 t0
  obtain ⟨K, hK⟩ := sm_of_cells Try.underlying34 Try.underlying5 (by kernel_rfl) (by kernel_rfl) t1
  obtain ⟨C, hCk⟩ := sm_of_cells Try.underlying34 Try.underlying5 (by kernel_rfl) (by kernel_rfl) t2
  simp only [k2, k27] at f0 hK hCk
  refine ⟨⟨n0, K, C⟩, ?_, ?_⟩
  · rw [cells_join65 f0 hK hCk (by rw [hl, hC])]
    simp [Cl.enc, Sm.enc]
  · simp only [Lit.wf, IntKind.min, IntKind.max, IntKind.signed, IntKind.bits] at hw
    unfold Norm
    exact w64_in (by simpa using hw)
/-- The reading of a row of cells. -/
def Ty.clsR (L : List Cl) : Ty := Ty.rd L.length (flatC L)
open Go.ChangeShapes Go.WideShapes Go.Deep in
theorem row_cells {H : Type} {enc : TypeId × Value → H} {W : World} {sp : Nat → Bool} {a : Option Addr} {len cap : Nat} {d : DataW H} {ps : List MemPlace}
    (h : DataW.Trod enc Try.prog W 0 sp true 39 (.slice a len cap) d ps) :
    ∃ L : List Cl, (Ty.clsR L).p W (.slice a len cap) ∧ NormT L := by
  have hC : Try.prog.cellsOf 87 = 65 := by kernel_rfl
  obtain ⟨fuel, hf⟩ := h
  rcases open_slice Try.underlying39 hf with ⟨hcs, _⟩ | ⟨x, l, c, m, n, D, Pl, hcs, _, hl, hm, hmm, _, hi⟩
  · simp [Value.cells] at hcs
    obtain ⟨rfl, rfl, rfl⟩ := hcs
    exact ⟨[], ⟨none, 0, rfl, Nat.zero_le _, fun _ => rfl, fun j u hu => by simp [flatC] at hu⟩, fun j hj => by simp at hj⟩
  · simp [Value.cells] at hcs
    obtain ⟨rfl, rfl, rfl⟩ := hcs
    have hlm : len ≤ m := by rw [hmm]; split <;> omega
    have hex : ∀ i, i < len → ∃ s : Cl, Rd W (some (x.add (i * 65))) s.enc ∧ Norm s := fun i hil => by
      obtain ⟨cs', h1, h2⟩ := hi i (by omega)
      rw [hC] at h1
      obtain ⟨s, rfl, hs⟩ := cl_of_cells h2
      obtain ⟨_, hcl, hat⟩ := World.cells?_some h1
      refine ⟨s, fun j v hv => ⟨_, rfl, ?_⟩, hs⟩
      have hj : j < 65 := by have := (List.getElem?_eq_some_iff.1 hv).1; rw [s.enc_len] at this; exact this
      have h3 := hat j hj
      rw [h3]
      exact hv
    have hfun : ∀ i : Fin len, ∃ s : Cl, Rd W (some (x.add (i.val * 65))) s.enc ∧ Norm s := fun i => hex i.val i.isLt
    obtain ⟨f, hf2⟩ := Classical.axiomOfChoice hfun
    have hget : ∀ i, (hil : i < len) → (List.ofFn f).getD i default = f ⟨i, hil⟩ := fun i hil => by
      simp only [List.getD]
      rw [List.getElem?_eq_getElem (by rw [List.length_ofFn]; exact hil), List.getElem_ofFn]
      rfl
    refine ⟨List.ofFn f, ⟨some x, cap, by rw [List.length_ofFn], by rw [List.length_ofFn]; omega, (fun e => by cases e), fun j v hv => ?_⟩, fun j hj => ?_⟩
    · have hj : j < len * 65 := by have := (List.getElem?_eq_some_iff.1 hv).1; rwa [flatC_len, List.length_ofFn] at this
      have hq : j / 65 < len := by omega
      have h1 : ((flatC (List.ofFn f)).drop (j / 65 * 65))[j % 65]? = some v := by
        rw [List.getElem?_drop, show j / 65 * 65 + j % 65 = j by omega]; exact hv
      rw [flatC_at _ (by rw [List.length_ofFn]; exact hq), List.getElem?_append_left (by rw [Cl.enc_len]; omega), hget _ hq] at h1
      obtain ⟨ad2, e2, h2⟩ := (hf2 ⟨j / 65, hq⟩).1 (j % 65) v h1
      injection e2 with e2
      subst e2
      refine ⟨x, rfl, ?_⟩
      rw [add_add, show j / 65 * 65 + j % 65 = j by omega] at h2
      exact h2
    · rw [List.length_ofFn] at hj
      rw [hget j hj]
      exact (hf2 ⟨j, hj⟩).2
end Go.Proofs.Ytmlbkcpmgcjblaa

/- Layer 15 by types: TableOrder. -/
namespace Go.Proofs.Ytmlbkcpmgcjblaa
open Go.RowKit

theorem tblk_at {w : World} {g : Nat} {T : TypeId} {u s : Value} (h : Blk w g T #[u, s]) : (Ty.at_ T [u, s]).p w (.pointer (some ⟨g, 0, none⟩)) := ⟨g, 0, _, (0, 0), rfl, h, fun j u h => by simpa using h⟩
/-- The row begun elsewhere. -/
def turned (X : List Sm) (r : Nat) : List Sm := X.drop r ++ X.take r
section
variable {P : Program} {ops : Array Oper} {Q : Exit → Act → World → Prop} {N : Nat} {Γ : Ctx} {a : Act} {w : World} {o1 o2 : Oper} {rest : List Oper}
end
end Go.Proofs.Ytmlbkcpmgcjblaa

/- Layer 16 by types: PeelMakes. -/
namespace Go.Proofs.Ytmlbkcpmgcjblaa
open Go.RowKit

section
variable {P : Program} {ops : Array Oper} {Q : Exit → Act → World → Prop} {N : Nat} {Γ : Ctx} {a : Act} {w : World} {o1 o2 : Oper} {rest : List Oper}
/-- A variable made, and a table of one's own stored there. -/
theorem tlNewTabS2 {T e : TypeId} {p q : Nat} {seed : Nat} {L : List Cl} {w1 : World} (hF : Fr N Γ a w) (h1 : o1.op = .alloc T) (hg1 : o1.guard = none) (hd1 : o1.dst = some p) (hp : p < N) (hpq : Nat.beq p q = false)
    (hz : ∀ w : World, (Instr.alloc T true (.tuple #[])).run P w = .ok (.pointer (some ⟨w.heap.size, 0, none⟩)) (w.alloc (.cells #[.int .u64 0, .slice none 0 0] T)))
    (h2 : o2.op = .store T (.tmp p) (.tmp q)) (hg2 : o2.guard = none) (hd2 : o2.dst = none) (hq : look Γ q = some (Ty.tabO w1 e seed L)) (hi : (P.info? T).map (·.size) = some 2)
    (hk : ∀ a' w' s, Fr N ((p, Ty.ex (.pointer (some ⟨w.heap.size, 0, none⟩))) :: Γ) a' w' → Below w.heap.size w w' → Blk w' w.heap.size T #[.int .u64 (seed : Int), s] → (Ty.seg w1 e 65 L.length (flatC L)).p w' s → wpList P ops Q rest a' w') : wpList P ops Q (o1 :: o2 :: rest) a w := by
  obtain ⟨v, hv2, hFo⟩ := hF.open hq
  obtain ⟨s, rfl, hs⟩ := hv2
  refine wpList_plain hg1 fun K hK => ?_
  unfold Oper.wp execOp
  simp only [h1, Sem.run_bind, hz, Result.andThen_ok, Sem.run_pure]
  refine hK _ _ ?_
  rw [hd1]
  have hb1 : Below w.heap.size w (w.alloc (.cells #[.int .u64 0, .slice none 0 0] T)) := ((Keeps.refl [] w).alloc _).below
  have hF1 : Fr N ((p, Ty.ex (.pointer (some ⟨w.heap.size, 0, none⟩))) :: (q, Ty.ex (.agg #[.int .u64 (seed : Int), s])) :: Γ) (a.put (some p) (.pointer (some ⟨w.heap.size, 0, none⟩))) (w.alloc (.cells #[.int .u64 0, .slice none 0 0] T)) := hFo.put hp hb1 rfl
  have hv3 := hF1.getEx (s := q) (v := .agg #[.int .u64 (seed : Int), s]) (by rw [look]; simp only [hpq, cond_false]; exact look_same _ _ _)
  refine tlStoreV (Δ := []) hF1 hg2 hd2 h2 (look_same _ _ _) hv3 (Blk.new w _ _) rfl (by rw [hi]; rfl) (sl_one (seg_sl _ _ hs) _) (hF1.keep []) rfl ?_
  intro w' _ hb' hkx
  have hB := below_own hb1 hkx (by intro y hy; simp only [List.mem_singleton] at hy; omega)
  exact hk _ _ s (hF.put hp hB rfl) hB (by simpa [Value.cells] using hb') ((Ty.seg w1 e 65 L.length (flatC L)).below hs hB)
end
/-- Raw cells that are not of none, laid over a table's first i. -/
def mixC (R T : List Cl) : Nat → List Cl
  | 0 => T
  | i + 1 => if (R.getD i default).n = 0 then mixC R T i else (mixC R T i).set i (R.getD i default)
theorem mixC_len (R T : List Cl) : ∀ i, (mixC R T i).length = T.length
  | 0 => rfl
  | i + 1 => by
    unfold mixC
    split
    · exact mixC_len R T i
    · rw [List.length_set]; exact mixC_len R T i
theorem mixC_norm {R T : List Cl} (hR : NormT R) (hT : NormT T) : ∀ i, i ≤ R.length → NormT (mixC R T i)
  | 0, _ => hT
  | i + 1, h => by
    unfold mixC
    split
    · exact mixC_norm hR hT i (by omega)
    · intro j hj
      rw [List.length_set] at hj
      rw [getD_set_eq _ _ hj]
      split
      · exact hR i (by omega)
      · exact mixC_norm hR hT i (by omega) j hj
section
variable {P : Program} {w0 : World} {Γ : Ctx} {o : Oper}
/-- The first field of a struct that is read. -/
theorem cFieldR0 {t ft : TypeId} {fs : Array Field} {sz : Nat} {x : Operand} {xs : List Value} (ho : o.op = .fieldAddr t x 0) (hx : Has w0 Γ x (Ty.atR xs)) (hu : P.underlying t = some (.struct fs)) (hf : (fs[0]?).map (fun f => (f.type, f.offset)) = some (ft, 0)) (hz : (P.info? ft).map (·.size) = some (sz + 1)) : OpOk P w0 Γ o (Ty.atR xs) :=
  .val fun a w hb hs => by
    obtain ⟨v, h1, ad, rfl, h2, h3⟩ := hx.see hs (by simp [ho, Op.operands]) hb
    obtain ⟨f, k1, k2⟩ := Option.map_eq_some_iff.1 hf
    simp only [Prod.mk.injEq] at k2
    obtain ⟨rfl, k3⟩ := k2
    obtain ⟨inf, hinf, hsz⟩ := Option.map_eq_some_iff.1 hz
    refine ⟨.pointer (some ad), ⟨ad, rfl, h2, h3⟩, ?_⟩
    unfold execOp
    simp [ho, h1, Instr.fieldAt, fieldPlace, run_underlying hu, k1, k3, Instr.sureAddr, sizeOf, typeInfo, hinf, hsz, Addr.add]
end
theorem cLoadClR {w0 : World} {Γ : Ctx} {o : Oper} {x : Operand} {c : Cl} {ys : List Value} (ho : o.op = .load 87 x) (hx : Has w0 Γ x (Ty.atR (c.enc ++ ys))) : OpOk Try.prog w0 Γ o (Ty.ex (.agg c.a)) := by
  have h := cLoadK (P := Try.prog) ho hx (pts_atR _) Try.underlying87 rfl info34 (by rw [List.length_append, c.enc_len]; omega)
  rwa [List.take_append_of_le_length (by rw [c.enc_len]; exact Nat.le_refl _), List.take_of_length_le (by rw [c.enc_len]; exact Nat.le_refl _)] at h
theorem own_none {seed : Nat} {L : List Cl} {M : List Sm} (h : ownN seed L M = 10) : ownP seed L M = [] ∧ ownQ seed L M = [] := by
  unfold ownP ownQ
  rw [h]
  exact ⟨rfl, rfl⟩
set_option maxRecDepth 100000 in
set_option maxHeartbeats 4000000 in
theorem lawPeelMakes_any (seed : Nat) (n : Int) (R : List Cl) (la lb : List Int) {W : World} {v2 v3 v4 : Value} (hsd : seed < 18446744073709551616) (h2 : (Ty.clsR R).p W v2) (hR : NormT R) (h3 : (Ty.rd la.length (la.map ivz)).p W v3) (h4 : (Ty.rd lb.length (lb.map ivz)).p W v4) : Calls Try.prog 16 #[.int .u64 (seed : Int), .int .i64 n, v2, v3, v4] W fun e w' => e = .returned (.bool true) ∧ Below W.heap.size W w' := by
  let TR := Ty.rd R.length (flatC R)
  let TA := Ty.rd la.length (la.map ivz)
  let TB := Ty.rd lb.length (lb.map ivz)
  replace h2 : TR.p W v2 := h2
  refine enter_ty 135 [Ty.ex (.int .u64 (seed : Int)), Ty.ex (.int .i64 n), Ty.ex v2, Ty.ex v3, Ty.ex v4] Try.func16 rfl (by kernel_rfl) ⟨rfl, rfl, rfl, rfl, rfl, trivial⟩ fun a hF => ?_
  have hB := Below.refl W.heap.size W
  repeat with_reducible first | refine wp_seq ?_ | refine nThen ?_ | refine nBlk ?_ | refine wp_skip ?_ | refine wp_block ?_ | refine wp_exit ?_ | refine xThen ?_ | refine xHere ?_ | refine wp_ret ?_ | refine rThen ?_
  refine' reg_all hF ?_ mixed (by kernel_rfl) ?_
  rotate_left
  · repeat (first
        | exact Line.nil
        | (refine' Line.cons rfl (.no rfl rfl rfl rfl rfl rfl) ?_; rotate_left)
        | ((first | refine' Line.cons rfl (.run rfl rfl ?_) ?_ | refine' Line.cons rfl (.yes rfl rfl rfl rfl ?_) ?_)
           any_goals (first | exact cMove rfl rfl | exact cAssign rfl rfl | exact cNot rfl rfl | exact cPickT rfl rfl rfl | exact cPickF rfl rfl rfl | exact cLss rfl rfl rfl | exact cGtr rfl rfl rfl | exact cEql rfl rfl rfl | exact cNeq rfl rfl rfl | exact cExtract rfl rfl rfl)
           rotate_left))
  intro a w1 hF hb hN
  have hBs := hB.size
  replace hB := hB.trans (hb.mono hB.size)
  dsimp only [ext, Option.getD] at hF
  repeat with_reducible first | refine wp_seq ?_ | refine nThen ?_ | refine nBlk ?_ | refine wp_skip ?_ | refine wp_block ?_ | refine wp_exit ?_ | refine xThen ?_ | refine xHere ?_ | refine wp_ret ?_ | refine rThen ?_
  refine' reg_all hF ?_ mixed (by kernel_rfl) ?_
  rotate_left
  · repeat (first
        | exact Line.nil
        | (refine' Line.cons rfl (.no rfl rfl rfl rfl rfl rfl) ?_; rotate_left)
        | ((first | refine' Line.cons rfl (.run rfl rfl ?_) ?_ | refine' Line.cons rfl (.yes rfl rfl rfl rfl ?_) ?_)
           any_goals (first | exact cMove rfl rfl | exact cAssign rfl rfl | exact cNot rfl rfl | exact cCall0 rfl awake16_ty | exact cPickT rfl rfl rfl | exact cPickF rfl rfl rfl | exact cLss rfl rfl rfl | exact cGtr rfl rfl rfl | exact cEql rfl rfl rfl | exact cNeq rfl rfl rfl | exact cExtract rfl rfl rfl)
           rotate_left))
  intro a w2 hF hb hN
  have hBs := hB.size
  replace hB := hB.trans (hb.mono hB.size)
  dsimp only [ext, Option.getD] at hF
  repeat with_reducible first | refine wp_seq ?_ | refine nThen ?_ | refine nBlk ?_ | refine wp_skip ?_ | refine wp_block ?_ | refine wp_exit ?_ | refine xThen ?_ | refine xHere ?_ | refine wp_ret ?_ | refine rThen ?_
  refine cond_f hF rfl ?_
  repeat with_reducible first | refine wp_seq ?_ | refine nThen ?_ | refine nBlk ?_ | refine wp_skip ?_ | refine wp_block ?_ | refine wp_exit ?_ | refine xThen ?_ | refine xHere ?_ | refine wp_ret ?_ | refine rThen ?_
  have k2 := TR.below h2 hB
  have k3 := TA.below h3 hB
  have k4 := TB.below h4 hB
  by_cases c1 : (30 : Int) < la.length
  · refine' reg_all hF ?_ mixed (by kernel_rfl) ?_
    rotate_left
    · repeat (first
          | exact Line.nil
          | (refine' Line.cons rfl (.no rfl rfl rfl rfl rfl rfl) ?_; rotate_left)
          | ((first | refine' Line.cons rfl (.run rfl rfl ?_) ?_ | refine' Line.cons rfl (.yes rfl rfl rfl rfl ?_) ?_)
             any_goals (first | exact cMove rfl rfl | exact cAssign rfl rfl | exact cNot rfl rfl | exact cLenH rfl (.l rfl k2) (Ty.rd_isSl _ _) Try.underlying39 | exact cLenH rfl (.l rfl k3) (Ty.rd_isSl _ _) Try.underlying66 | exact cLenH rfl (.l rfl k4) (Ty.rd_isSl _ _) Try.underlying66 | exact OpOk.b (c := true) (cGtr rfl rfl rfl) (decide_eq_true (by omega)) | exact OpOk.b (c := false) (cGtr rfl rfl rfl) (decide_eq_false (by omega)) | exact cPickT rfl rfl rfl | exact cPickF rfl rfl rfl | exact cLss rfl rfl rfl | exact cGtr rfl rfl rfl | exact cEql rfl rfl rfl | exact cNeq rfl rfl rfl | exact cExtract rfl rfl rfl)
             rotate_left))
    intro a w3 hF hb hN
    have hBs := hB.size
    replace hB := hB.trans (hb.mono hB.size)
    dsimp only [ext, Option.getD] at hF
    repeat with_reducible first | refine wp_seq ?_ | refine nThen ?_ | refine nBlk ?_ | refine wp_skip ?_ | refine wp_block ?_ | refine wp_exit ?_ | refine xThen ?_ | refine xHere ?_ | refine wp_ret ?_ | refine rThen ?_
    refine cond_t hF rfl ?_
    repeat with_reducible first | refine wp_seq ?_ | refine nThen ?_ | refine nBlk ?_ | refine wp_skip ?_ | refine wp_block ?_ | refine wp_exit ?_ | refine xThen ?_ | refine xHere ?_ | refine wp_ret ?_ | refine rThen ?_
    refine' reg_all hF ?_ mixed (by kernel_rfl) ?_
    rotate_left
    · repeat (first
          | exact Line.nil
          | (refine' Line.cons rfl (.no rfl rfl rfl rfl rfl rfl) ?_; rotate_left)
          | ((first | refine' Line.cons rfl (.run rfl rfl ?_) ?_ | refine' Line.cons rfl (.yes rfl rfl rfl rfl ?_) ?_)
             any_goals (first | exact cMove rfl rfl | exact cAssign rfl rfl | exact cNot rfl rfl | exact cPickT rfl rfl rfl | exact cPickF rfl rfl rfl | exact cLss rfl rfl rfl | exact cGtr rfl rfl rfl | exact cEql rfl rfl rfl | exact cNeq rfl rfl rfl | exact cExtract rfl rfl rfl)
             rotate_left))
    intro a w4 hF hb hN
    have hBs := hB.size
    replace hB := hB.trans (hb.mono hB.size)
    dsimp only [ext, Option.getD] at hF
    repeat with_reducible first | refine wp_seq ?_ | refine nThen ?_ | refine nBlk ?_ | refine wp_skip ?_ | refine wp_block ?_ | refine wp_exit ?_ | refine xThen ?_ | refine xHere ?_ | refine wp_ret ?_ | refine rThen ?_
    refine ret1 hF rfl rfl fun z hz => ?_
    exact ⟨by rw [show z = .bool true from hz], hB⟩
  by_cases c2 : (30 : Int) < lb.length
  · refine' reg_all hF ?_ mixed (by kernel_rfl) ?_
    rotate_left
    · repeat (first
          | exact Line.nil
          | (refine' Line.cons rfl (.no rfl rfl rfl rfl rfl rfl) ?_; rotate_left)
          | ((first | refine' Line.cons rfl (.run rfl rfl ?_) ?_ | refine' Line.cons rfl (.yes rfl rfl rfl rfl ?_) ?_)
             any_goals (first | exact cMove rfl rfl | exact cAssign rfl rfl | exact cNot rfl rfl | exact cLenH rfl (.l rfl k2) (Ty.rd_isSl _ _) Try.underlying39 | exact cLenH rfl (.l rfl k3) (Ty.rd_isSl _ _) Try.underlying66 | exact cLenH rfl (.l rfl k4) (Ty.rd_isSl _ _) Try.underlying66 | exact OpOk.b (c := true) (cGtr rfl rfl rfl) (decide_eq_true (by omega)) | exact OpOk.b (c := false) (cGtr rfl rfl rfl) (decide_eq_false (by omega)) | exact cPickT rfl rfl rfl | exact cPickF rfl rfl rfl | exact cLss rfl rfl rfl | exact cGtr rfl rfl rfl | exact cEql rfl rfl rfl | exact cNeq rfl rfl rfl | exact cExtract rfl rfl rfl)
             rotate_left))
    intro a w3 hF hb hN
    have hBs := hB.size
    replace hB := hB.trans (hb.mono hB.size)
    dsimp only [ext, Option.getD] at hF
    repeat with_reducible first | refine wp_seq ?_ | refine nThen ?_ | refine nBlk ?_ | refine wp_skip ?_ | refine wp_block ?_ | refine wp_exit ?_ | refine xThen ?_ | refine xHere ?_ | refine wp_ret ?_ | refine rThen ?_
    refine cond_t hF rfl ?_
    repeat with_reducible first | refine wp_seq ?_ | refine nThen ?_ | refine nBlk ?_ | refine wp_skip ?_ | refine wp_block ?_ | refine wp_exit ?_ | refine xThen ?_ | refine xHere ?_ | refine wp_ret ?_ | refine rThen ?_
    refine' reg_all hF ?_ mixed (by kernel_rfl) ?_
    rotate_left
    · repeat (first
          | exact Line.nil
          | (refine' Line.cons rfl (.no rfl rfl rfl rfl rfl rfl) ?_; rotate_left)
          | ((first | refine' Line.cons rfl (.run rfl rfl ?_) ?_ | refine' Line.cons rfl (.yes rfl rfl rfl rfl ?_) ?_)
             any_goals (first | exact cMove rfl rfl | exact cAssign rfl rfl | exact cNot rfl rfl | exact cPickT rfl rfl rfl | exact cPickF rfl rfl rfl | exact cLss rfl rfl rfl | exact cGtr rfl rfl rfl | exact cEql rfl rfl rfl | exact cNeq rfl rfl rfl | exact cExtract rfl rfl rfl)
             rotate_left))
    intro a w4 hF hb hN
    have hBs := hB.size
    replace hB := hB.trans (hb.mono hB.size)
    dsimp only [ext, Option.getD] at hF
    repeat with_reducible first | refine wp_seq ?_ | refine nThen ?_ | refine nBlk ?_ | refine wp_skip ?_ | refine wp_block ?_ | refine wp_exit ?_ | refine xThen ?_ | refine xHere ?_ | refine wp_ret ?_ | refine rThen ?_
    refine ret1 hF rfl rfl fun z hz => ?_
    exact ⟨by rw [show z = .bool true from hz], hB⟩
  by_cases c3 : 90 < n
  · refine' reg_all hF ?_ mixed (by kernel_rfl) ?_
    rotate_left
    · repeat (first
          | exact Line.nil
          | (refine' Line.cons rfl (.no rfl rfl rfl rfl rfl rfl) ?_; rotate_left)
          | ((first | refine' Line.cons rfl (.run rfl rfl ?_) ?_ | refine' Line.cons rfl (.yes rfl rfl rfl rfl ?_) ?_)
             any_goals (first | exact cMove rfl rfl | exact cAssign rfl rfl | exact cNot rfl rfl | exact cLenH rfl (.l rfl k2) (Ty.rd_isSl _ _) Try.underlying39 | exact cLenH rfl (.l rfl k3) (Ty.rd_isSl _ _) Try.underlying66 | exact cLenH rfl (.l rfl k4) (Ty.rd_isSl _ _) Try.underlying66 | exact OpOk.b (c := true) (cGtr rfl rfl rfl) (decide_eq_true (by omega)) | exact OpOk.b (c := false) (cGtr rfl rfl rfl) (decide_eq_false (by omega)) | exact cPickT rfl rfl rfl | exact cPickF rfl rfl rfl | exact cLss rfl rfl rfl | exact cGtr rfl rfl rfl | exact cEql rfl rfl rfl | exact cNeq rfl rfl rfl | exact cExtract rfl rfl rfl)
             rotate_left))
    intro a w3 hF hb hN
    have hBs := hB.size
    replace hB := hB.trans (hb.mono hB.size)
    dsimp only [ext, Option.getD] at hF
    repeat with_reducible first | refine wp_seq ?_ | refine nThen ?_ | refine nBlk ?_ | refine wp_skip ?_ | refine wp_block ?_ | refine wp_exit ?_ | refine xThen ?_ | refine xHere ?_ | refine wp_ret ?_ | refine rThen ?_
    refine cond_t hF rfl ?_
    repeat with_reducible first | refine wp_seq ?_ | refine nThen ?_ | refine nBlk ?_ | refine wp_skip ?_ | refine wp_block ?_ | refine wp_exit ?_ | refine xThen ?_ | refine xHere ?_ | refine wp_ret ?_ | refine rThen ?_
    refine' reg_all hF ?_ mixed (by kernel_rfl) ?_
    rotate_left
    · repeat (first
          | exact Line.nil
          | (refine' Line.cons rfl (.no rfl rfl rfl rfl rfl rfl) ?_; rotate_left)
          | ((first | refine' Line.cons rfl (.run rfl rfl ?_) ?_ | refine' Line.cons rfl (.yes rfl rfl rfl rfl ?_) ?_)
             any_goals (first | exact cMove rfl rfl | exact cAssign rfl rfl | exact cNot rfl rfl | exact cPickT rfl rfl rfl | exact cPickF rfl rfl rfl | exact cLss rfl rfl rfl | exact cGtr rfl rfl rfl | exact cEql rfl rfl rfl | exact cNeq rfl rfl rfl | exact cExtract rfl rfl rfl)
             rotate_left))
    intro a w4 hF hb hN
    have hBs := hB.size
    replace hB := hB.trans (hb.mono hB.size)
    dsimp only [ext, Option.getD] at hF
    repeat with_reducible first | refine wp_seq ?_ | refine nThen ?_ | refine nBlk ?_ | refine wp_skip ?_ | refine wp_block ?_ | refine wp_exit ?_ | refine xThen ?_ | refine xHere ?_ | refine wp_ret ?_ | refine rThen ?_
    refine ret1 hF rfl rfl fun z hz => ?_
    exact ⟨by rw [show z = .bool true from hz], hB⟩
  by_cases c4 : (90 : Int) < R.length
  · refine' reg_all hF ?_ mixed (by kernel_rfl) ?_
    rotate_left
    · repeat (first
          | exact Line.nil
          | (refine' Line.cons rfl (.no rfl rfl rfl rfl rfl rfl) ?_; rotate_left)
          | ((first | refine' Line.cons rfl (.run rfl rfl ?_) ?_ | refine' Line.cons rfl (.yes rfl rfl rfl rfl ?_) ?_)
             any_goals (first | exact cMove rfl rfl | exact cAssign rfl rfl | exact cNot rfl rfl | exact cLenH rfl (.l rfl k2) (Ty.rd_isSl _ _) Try.underlying39 | exact cLenH rfl (.l rfl k3) (Ty.rd_isSl _ _) Try.underlying66 | exact cLenH rfl (.l rfl k4) (Ty.rd_isSl _ _) Try.underlying66 | exact OpOk.b (c := true) (cGtr rfl rfl rfl) (decide_eq_true (by omega)) | exact OpOk.b (c := false) (cGtr rfl rfl rfl) (decide_eq_false (by omega)) | exact cPickT rfl rfl rfl | exact cPickF rfl rfl rfl | exact cLss rfl rfl rfl | exact cGtr rfl rfl rfl | exact cEql rfl rfl rfl | exact cNeq rfl rfl rfl | exact cExtract rfl rfl rfl)
             rotate_left))
    intro a w3 hF hb hN
    have hBs := hB.size
    replace hB := hB.trans (hb.mono hB.size)
    dsimp only [ext, Option.getD] at hF
    repeat with_reducible first | refine wp_seq ?_ | refine nThen ?_ | refine nBlk ?_ | refine wp_skip ?_ | refine wp_block ?_ | refine wp_exit ?_ | refine xThen ?_ | refine xHere ?_ | refine wp_ret ?_ | refine rThen ?_
    refine cond_t hF rfl ?_
    repeat with_reducible first | refine wp_seq ?_ | refine nThen ?_ | refine nBlk ?_ | refine wp_skip ?_ | refine wp_block ?_ | refine wp_exit ?_ | refine xThen ?_ | refine xHere ?_ | refine wp_ret ?_ | refine rThen ?_
    refine' reg_all hF ?_ mixed (by kernel_rfl) ?_
    rotate_left
    · repeat (first
          | exact Line.nil
          | (refine' Line.cons rfl (.no rfl rfl rfl rfl rfl rfl) ?_; rotate_left)
          | ((first | refine' Line.cons rfl (.run rfl rfl ?_) ?_ | refine' Line.cons rfl (.yes rfl rfl rfl rfl ?_) ?_)
             any_goals (first | exact cMove rfl rfl | exact cAssign rfl rfl | exact cNot rfl rfl | exact cPickT rfl rfl rfl | exact cPickF rfl rfl rfl | exact cLss rfl rfl rfl | exact cGtr rfl rfl rfl | exact cEql rfl rfl rfl | exact cNeq rfl rfl rfl | exact cExtract rfl rfl rfl)
             rotate_left))
    intro a w4 hF hb hN
    have hBs := hB.size
    replace hB := hB.trans (hb.mono hB.size)
    dsimp only [ext, Option.getD] at hF
    repeat with_reducible first | refine wp_seq ?_ | refine nThen ?_ | refine nBlk ?_ | refine wp_skip ?_ | refine wp_block ?_ | refine wp_exit ?_ | refine xThen ?_ | refine xHere ?_ | refine wp_ret ?_ | refine rThen ?_
    refine ret1 hF rfl rfl fun z hz => ?_
    exact ⟨by rw [show z = .bool true from hz], hB⟩
  have f1 := few16_ty la TA (reads_rd _ _) (by omega)
  have f2 := few16_ty lb TB (reads_rd _ _) (by omega)
  have hXl := fewL_len la
  have hMl := fewL_len lb
  have sM := fewL_srt lb
  generalize fewL la = X at *
  generalize fewL lb = M at *
  have o1 := tof_ty seed n X (by omega) hsd
  refine' reg_all hF ?_ mixed (by kernel_rfl) ?_
  rotate_left
  · repeat (first
        | exact Line.nil
        | (refine' Line.cons rfl (.no rfl rfl rfl rfl rfl rfl) ?_; rotate_left)
        | ((first | refine' Line.cons rfl (.run rfl rfl ?_) ?_ | refine' Line.cons rfl (.yes rfl rfl rfl rfl ?_) ?_)
           any_goals (first | exact cMove rfl rfl | exact cAssign rfl rfl | exact cNot rfl rfl | exact cLenH rfl (.l rfl k2) (Ty.rd_isSl _ _) Try.underlying39 | exact cLenH rfl (.l rfl k3) (Ty.rd_isSl _ _) Try.underlying66 | exact cLenH rfl (.l rfl k4) (Ty.rd_isSl _ _) Try.underlying66 | exact OpOk.b (c := true) (cGtr rfl rfl rfl) (decide_eq_true (by omega)) | exact OpOk.b (c := false) (cGtr rfl rfl rfl) (decide_eq_false (by omega)) | exact cPickT rfl rfl rfl | exact cPickF rfl rfl rfl | exact cLss rfl rfl rfl | exact cGtr rfl rfl rfl | exact cEql rfl rfl rfl | exact cNeq rfl rfl rfl | exact cExtract rfl rfl rfl)
           rotate_left))
  intro a w3 hF hb hN
  have hBs := hB.size
  replace hB := hB.trans (hb.mono hB.size)
  dsimp only [ext, Option.getD] at hF
  repeat with_reducible first | refine wp_seq ?_ | refine nThen ?_ | refine nBlk ?_ | refine wp_skip ?_ | refine wp_block ?_ | refine wp_exit ?_ | refine xThen ?_ | refine xHere ?_ | refine wp_ret ?_ | refine rThen ?_
  refine cond_f hF rfl ?_
  repeat with_reducible first | refine wp_seq ?_ | refine nThen ?_ | refine nBlk ?_ | refine wp_skip ?_ | refine wp_block ?_ | refine wp_exit ?_ | refine xThen ?_ | refine xHere ?_ | refine wp_ret ?_ | refine rThen ?_
  clear k2 k3 k4
  by_cases hg : goodN n = true
  rotate_left
  · have hg : goodN n = false := by simpa using hg
    rw [newE_bad hg] at o1
    refine wp_region_lit ?_
    refine' tlOp hF rfl rfl rfl ?_ ?_
    rotate_left
    · first | exact cMove rfl rfl | exact cCallS1 rfl (.l rfl (TA.below h3 hB)) f1 | exact cCallR3 rfl (.t rfl) (.t rfl) (Has.c (.t rfl) seg_sl) o1 (tabE_olds _ _ _ _)
    intro a w5_0 hF hb
    replace hB := hB.trans (hb.mono hB.size)
    refine' tlOp hF rfl rfl rfl ?_ ?_
    rotate_left
    · first | exact cMove rfl rfl | exact cCallS1 rfl (.l rfl (TA.below h3 hB)) f1 | exact cCallR3 rfl (.t rfl) (.t rfl) (Has.c (.t rfl) seg_sl) o1 (tabE_olds _ _ _ _)
    intro a w5_1 hF hb
    replace hB := hB.trans (hb.mono hB.size)
    refine' tlOp hF rfl rfl rfl ?_ ?_
    rotate_left
    · first | exact cMove rfl rfl | exact cCallS1 rfl (.l rfl (TA.below h3 hB)) f1 | exact cCallR3 rfl (.t rfl) (.t rfl) (Has.c (.t rfl) seg_sl) o1 (tabE_olds _ _ _ _)
    intro a w5_2 hF hb
    replace hB := hB.trans (hb.mono hB.size)
    refine' tlOp hF rfl rfl rfl ?_ ?_
    rotate_left
    · first | exact cMove rfl rfl | exact cCallS1 rfl (.l rfl (TA.below h3 hB)) f1 | exact cCallR3 rfl (.t rfl) (.t rfl) (Has.c (.t rfl) seg_sl) o1 (tabE_olds _ _ _ _)
    intro a w5_3 hF hb
    replace hB := hB.trans (hb.mono hB.size)
    refine' tlOp hF rfl rfl rfl ?_ ?_
    rotate_left
    · first | exact cMove rfl rfl | exact cCallS1 rfl (.l rfl (TA.below h3 hB)) f1 | exact cCallR3 rfl (.t rfl) (.t rfl) (Has.c (.t rfl) seg_sl) o1 (tabE_olds _ _ _ _)
    intro a w5_4 hF hb
    replace hB := hB.trans (hb.mono hB.size)
    refine' tlOp hF rfl rfl rfl ?_ ?_
    rotate_left
    · first | exact cMove rfl rfl | exact cCallS1 rfl (.l rfl (TA.below h3 hB)) f1 | exact cCallR3 rfl (.t rfl) (.t rfl) (Has.c (.t rfl) seg_sl) o1 (tabE_olds _ _ _ _)
    intro a w5_5 hF hb
    replace hB := hB.trans (hb.mono hB.size)
    refine' tlOp hF rfl rfl rfl ?_ ?_
    rotate_left
    · exact cExtT rfl rfl
    intro a w5_t hF hb
    replace hB := hB.trans (hb.mono hB.size)
    refine' tlOp hF rfl rfl rfl ?_ ?_
    rotate_left
    · exact cExtE rfl rfl
    intro a w5_e hF hb
    replace hB := hB.trans (hb.mono hB.size)
    refine tlNewTab hF rfl rfl rfl (by decide) rfl (run_alloc_i infoT46) rfl rfl rfl rfl tabO_tab sizeT46 fun a w5_n hF hb => ?_
    replace hB := hB.trans (hb.mono hB.size)
    refine' tlOp hF rfl rfl rfl ?_ ?_
    rotate_left
    · exact cAssign rfl rfl
    intro a w5 hF hb
    replace hB := hB.trans (hb.mono hB.size)
    try (refine wpList_nil ?_)
    repeat with_reducible first | refine wp_seq ?_ | refine nThen ?_ | refine nBlk ?_ | refine wp_skip ?_ | refine wp_block ?_ | refine wp_exit ?_ | refine xThen ?_ | refine xHere ?_ | refine wp_ret ?_ | refine rThen ?_
    refine' reg_all hF ?_ mixed (by kernel_rfl) ?_
    rotate_left
    · repeat (first
          | exact Line.nil
          | (refine' Line.cons rfl (.no rfl rfl rfl rfl rfl rfl) ?_; rotate_left)
          | ((first | refine' Line.cons rfl (.run rfl rfl ?_) ?_ | refine' Line.cons rfl (.yes rfl rfl rfl rfl ?_) ?_)
             any_goals (first | exact cMove rfl rfl | exact cAssign rfl rfl | exact cNot rfl rfl | exact OpOk.b (c := true) (cNeq rfl rfl rfl) rfl | exact cPickT rfl rfl rfl | exact cPickF rfl rfl rfl | exact cLss rfl rfl rfl | exact cGtr rfl rfl rfl | exact cEql rfl rfl rfl | exact cNeq rfl rfl rfl | exact cExtract rfl rfl rfl)
             rotate_left))
    intro a w7 hF hb hN
    have hBs := hB.size
    replace hB := hB.trans (hb.mono hB.size)
    dsimp only [ext, Option.getD] at hF
    repeat with_reducible first | refine wp_seq ?_ | refine nThen ?_ | refine nBlk ?_ | refine wp_skip ?_ | refine wp_block ?_ | refine wp_exit ?_ | refine xThen ?_ | refine xHere ?_ | refine wp_ret ?_ | refine rThen ?_
    refine cond_t hF rfl ?_
    repeat with_reducible first | refine wp_seq ?_ | refine nThen ?_ | refine nBlk ?_ | refine wp_skip ?_ | refine wp_block ?_ | refine wp_exit ?_ | refine xThen ?_ | refine xHere ?_ | refine wp_ret ?_ | refine rThen ?_
    refine' reg_all hF ?_ mixed (by kernel_rfl) ?_
    rotate_left
    · repeat (first
          | exact Line.nil
          | (refine' Line.cons rfl (.no rfl rfl rfl rfl rfl rfl) ?_; rotate_left)
          | ((first | refine' Line.cons rfl (.run rfl rfl ?_) ?_ | refine' Line.cons rfl (.yes rfl rfl rfl rfl ?_) ?_)
             any_goals (first | exact cMove rfl rfl | exact cAssign rfl rfl | exact cNot rfl rfl | exact OpOk.b (c := true) (cEql rfl rfl rfl) rfl | exact cPickT rfl rfl rfl | exact cPickF rfl rfl rfl | exact cLss rfl rfl rfl | exact cGtr rfl rfl rfl | exact cEql rfl rfl rfl | exact cNeq rfl rfl rfl | exact cExtract rfl rfl rfl)
             rotate_left))
    intro a w8 hF hb hN
    have hBs := hB.size
    replace hB := hB.trans (hb.mono hB.size)
    dsimp only [ext, Option.getD] at hF
    repeat with_reducible first | refine wp_seq ?_ | refine nThen ?_ | refine nBlk ?_ | refine wp_skip ?_ | refine wp_block ?_ | refine wp_exit ?_ | refine xThen ?_ | refine xHere ?_ | refine wp_ret ?_ | refine rThen ?_
    refine ret1 hF rfl rfl fun z hz => ?_
    exact ⟨by rw [show z = .bool true from hz], hB⟩
  rw [newE_good hg, newS_good hg] at o1
  obtain ⟨N, hN, hN1, hN2⟩ := goodN_rng hg
  have hAl : (ofL seed n X).length = n.toNat := ofL_len hg
  have hAn := ofL_norm (seed := seed) (n := n) (D := X)
  generalize ofL seed n X = A at *
  have hw3 := hB.size
  refine wp_region_lit ?_
  refine' tlOp hF rfl rfl rfl ?_ ?_
  rotate_left
  · first | exact cMove rfl rfl | exact cCallS1 rfl (.l rfl (TA.below h3 hB)) f1 | exact cCallR3 rfl (.t rfl) (.t rfl) (Has.c (.t rfl) seg_sl) o1 (tabE_olds _ _ _ _)
  intro a w5_0 hF hb
  replace hB := hB.trans (hb.mono hB.size)
  have hz_w5_0 := hB.size
  refine' tlOp hF rfl rfl rfl ?_ ?_
  rotate_left
  · first | exact cMove rfl rfl | exact cCallS1 rfl (.l rfl (TA.below h3 hB)) f1 | exact cCallR3 rfl (.t rfl) (.t rfl) (Has.c (.t rfl) seg_sl) o1 (tabE_olds _ _ _ _)
  intro a w5_1 hF hb
  replace hB := hB.trans (hb.mono hB.size)
  have hz_w5_1 := hB.size
  refine' tlOp hF rfl rfl rfl ?_ ?_
  rotate_left
  · first | exact cMove rfl rfl | exact cCallS1 rfl (.l rfl (TA.below h3 hB)) f1 | exact cCallR3 rfl (.t rfl) (.t rfl) (Has.c (.t rfl) seg_sl) o1 (tabE_olds _ _ _ _)
  intro a w5_2 hF hb
  replace hB := hB.trans (hb.mono hB.size)
  have hz_w5_2 := hB.size
  refine' tlOp hF rfl rfl rfl ?_ ?_
  rotate_left
  · first | exact cMove rfl rfl | exact cCallS1 rfl (.l rfl (TA.below h3 hB)) f1 | exact cCallR3 rfl (.t rfl) (.t rfl) (Has.c (.t rfl) seg_sl) o1 (tabE_olds _ _ _ _)
  intro a w5_3 hF hb
  replace hB := hB.trans (hb.mono hB.size)
  have hz_w5_3 := hB.size
  refine' tlOp hF rfl rfl rfl ?_ ?_
  rotate_left
  · first | exact cMove rfl rfl | exact cCallS1 rfl (.l rfl (TA.below h3 hB)) f1 | exact cCallR3 rfl (.t rfl) (.t rfl) (Has.c (.t rfl) seg_sl) o1 (tabE_olds _ _ _ _)
  intro a w5_4 hF hb
  replace hB := hB.trans (hb.mono hB.size)
  have hz_w5_4 := hB.size
  refine' tlOp hF rfl rfl rfl ?_ ?_
  rotate_left
  · first | exact cMove rfl rfl | exact cCallS1 rfl (.l rfl (TA.below h3 hB)) f1 | exact cCallR3 rfl (.t rfl) (.t rfl) (Has.c (.t rfl) seg_sl) o1 (tabE_olds _ _ _ _)
  intro a w5_5 hF hb
  replace hB := hB.trans (hb.mono hB.size)
  have hz_w5_5 := hB.size
  refine' tlOp hF rfl rfl rfl ?_ ?_
  rotate_left
  · exact cExtT rfl rfl
  intro a w5_t hF hb
  replace hB := hB.trans (hb.mono hB.size)
  have hz_w5_t := hB.size
  refine' tlOp hF rfl rfl rfl ?_ ?_
  rotate_left
  · exact cExtE rfl rfl
  intro a w5_e hF hb
  replace hB := hB.trans (hb.mono hB.size)
  have hz_w5_e := hB.size
  have hBa := hB
  refine tlNewTabS2 hF rfl rfl rfl (by decide) rfl (run_alloc_i infoT46) rfl rfl rfl rfl sizeT46 fun a w5_n s hF hb hbT hsT => ?_
  replace hB := hB.trans (hb.mono hB.size)
  refine' tlOp hF rfl rfl rfl ?_ ?_
  rotate_left
  · exact cAssign rfl rfl
  intro a w5 hF hb
  replace hB := hB.trans (hb.mono hB.size)
  have hz_w5 := hB.size
  try (refine wpList_nil ?_)
  repeat with_reducible first | refine wp_seq ?_ | refine nThen ?_ | refine nBlk ?_ | refine wp_skip ?_ | refine wp_block ?_ | refine wp_exit ?_ | refine xThen ?_ | refine xHere ?_ | refine wp_ret ?_ | refine rThen ?_
  have hgT : W.heap.size ≤ w5_e.heap.size := hBa.size
  replace hbT := hbT.below hb
  replace hsT := (Ty.seg _ 87 65 A.length (flatC A)).below hsT hb
  obtain ⟨S, hseg, hS⟩ := hsT
  have hSW : ∀ y ∈ S, W.heap.size ≤ y := fun y hy => by have := hS y hy; omega
  obtain ⟨g11, eg⟩ : ∃ g, g = w5_e.heap.size := ⟨_, rfl⟩
  rw [← eg] at hbT hF hgT
  clear hBa hS
  repeat with_reducible first | refine wp_seq ?_ | refine nThen ?_ | refine nBlk ?_ | refine wp_skip ?_ | refine wp_block ?_ | refine wp_exit ?_ | refine xThen ?_ | refine xHere ?_ | refine wp_ret ?_ | refine rThen ?_
  refine' reg_all hF ?_ mixed (by kernel_rfl) ?_
  rotate_left
  · repeat (first
        | exact Line.nil
        | (refine' Line.cons rfl (.no rfl rfl rfl rfl rfl rfl) ?_; rotate_left)
        | ((first | refine' Line.cons rfl (.run rfl rfl ?_) ?_ | refine' Line.cons rfl (.yes rfl rfl rfl rfl ?_) ?_)
           any_goals (first | exact cMove rfl rfl | exact cAssign rfl rfl | exact cNot rfl rfl | exact OpOk.b (c := false) (cNeq rfl rfl rfl) rfl | exact cPickT rfl rfl rfl | exact cPickF rfl rfl rfl | exact cLss rfl rfl rfl | exact cGtr rfl rfl rfl | exact cEql rfl rfl rfl | exact cNeq rfl rfl rfl | exact cExtract rfl rfl rfl)
           rotate_left))
  intro a w7 hF hb hN
  have hBs := hB.size
  replace hB := hB.trans (hb.mono hB.size)
  dsimp only [ext, Option.getD] at hF
  repeat with_reducible first | refine wp_seq ?_ | refine nThen ?_ | refine nBlk ?_ | refine wp_skip ?_ | refine wp_block ?_ | refine wp_exit ?_ | refine xThen ?_ | refine xHere ?_ | refine wp_ret ?_ | refine rThen ?_
  replace hbT := hbT.below hb
  replace hseg := hseg.below hb
  refine cond_f hF rfl ?_
  repeat with_reducible first | refine wp_seq ?_ | refine nThen ?_ | refine nBlk ?_ | refine wp_skip ?_ | refine wp_block ?_ | refine wp_exit ?_ | refine xThen ?_ | refine xHere ?_ | refine wp_ret ?_ | refine rThen ?_
  refine' reg_all hF ?_ mixed (by kernel_rfl) ?_
  rotate_left
  · repeat (first
        | exact Line.nil
        | (refine' Line.cons rfl (.no rfl rfl rfl rfl rfl rfl) ?_; rotate_left)
        | ((first | refine' Line.cons rfl (.run rfl rfl ?_) ?_ | refine' Line.cons rfl (.yes rfl rfl rfl rfl ?_) ?_)
           any_goals (first | exact cMove rfl rfl | exact cAssign rfl rfl | exact cNot rfl rfl | exact cPickT rfl rfl rfl | exact cPickF rfl rfl rfl | exact cLss rfl rfl rfl | exact cGtr rfl rfl rfl | exact cEql rfl rfl rfl | exact cNeq rfl rfl rfl | exact cExtract rfl rfl rfl)
           rotate_left))
  intro a w8 hF hb hN
  have hBs := hB.size
  replace hB := hB.trans (hb.mono hB.size)
  dsimp only [ext, Option.getD] at hF
  repeat with_reducible first | refine wp_seq ?_ | refine nThen ?_ | refine nBlk ?_ | refine wp_skip ?_ | refine wp_block ?_ | refine wp_exit ?_ | refine xThen ?_ | refine xHere ?_ | refine wp_ret ?_ | refine rThen ?_
  replace hbT := hbT.below hb
  replace hseg := hseg.below hb
  refine wp_mono (Q := fun e a w' => e = .exit 0 ∧ ∃ i : Nat, i ≤ R.length ∧ Fr 135 [(0, Ty.ex (.int .u64 (seed : Int))), (1, Ty.ex (.int .i64 n)), (4, Ty.ex v4), (11, Ty.ex (.pointer (some ⟨g11, 0, none⟩)))] a w' ∧ Below W.heap.size W w' ∧ Blk w' g11 41 #[.int .u64 (seed : Int), s] ∧ Seg w' 87 65 s A.length (flatC (mixC R A i)) S) ?_ ?_
  · refine loop_ty (fun m a wr => ∃ i : Nat, i + m = R.length ∧ Fr 135 [(0, Ty.ex (.int .u64 (seed : Int))), (1, Ty.ex (.int .i64 n)), (2, Ty.ex v2), (4, Ty.ex v4), (11, Ty.ex (.pointer (some ⟨g11, 0, none⟩))), (13, Ty.ex (.int .i64 (i : Int)))] a wr ∧ Below W.heap.size W wr ∧ Blk wr g11 41 #[.int .u64 (seed : Int), s] ∧ Seg wr 87 65 s A.length (flatC (mixC R A i)) S) R.length ?_ ?_
    · exact ⟨0, by omega, hF.keep [0, 1, 2, 4, 11, 13], hB, hbT, hseg⟩
    clear hF hB hbT hseg hb hBs
    rintro m a wr ⟨i, hi, hF, hB, hbT, hseg⟩
    have hat := tblk_at hbT
    have hsl := hseg.sl
    have hml := mixC_len R A i
    have k2 := TR.below h2 hB
    repeat with_reducible first | refine wp_seq ?_ | refine nThen ?_ | refine nBlk ?_ | refine wp_skip ?_ | refine wp_block ?_ | refine wp_exit ?_ | refine xThen ?_ | refine xHere ?_ | refine wp_ret ?_ | refine rThen ?_
    by_cases hlt : i < R.length
    rotate_left
    · obtain rfl : i = R.length := by omega
      refine' reg_all hF ?_ mixed (by kernel_rfl) ?_
      rotate_left
      · repeat (first
            | exact Line.nil
            | (refine' Line.cons rfl (.no rfl rfl rfl rfl rfl rfl) ?_; rotate_left)
            | ((first | refine' Line.cons rfl (.run rfl rfl ?_) ?_ | refine' Line.cons rfl (.yes rfl rfl rfl rfl ?_) ?_)
               any_goals (first | exact cMove rfl rfl | exact cAssign rfl rfl | exact cNot rfl rfl | exact cLenH rfl (.l rfl k2) (Ty.rd_isSl _ _) Try.underlying39 | exact OpOk.b (c := false) (cLss rfl rfl rfl) (decide_eq_false (by omega)) | exact cPickT rfl rfl rfl | exact cPickF rfl rfl rfl | exact cLss rfl rfl rfl | exact cGtr rfl rfl rfl | exact cEql rfl rfl rfl | exact cNeq rfl rfl rfl | exact cExtract rfl rfl rfl)
               rotate_left))
      intro a w10 hF hb hN
      have hBs := hB.size
      replace hB := hB.trans (hb.mono hB.size)
      dsimp only [ext, Option.getD] at hF
      repeat with_reducible first | refine wp_seq ?_ | refine nThen ?_ | refine nBlk ?_ | refine wp_skip ?_ | refine wp_block ?_ | refine wp_exit ?_ | refine xThen ?_ | refine xHere ?_ | refine wp_ret ?_ | refine rThen ?_
      refine cond_f hF rfl ?_
      repeat with_reducible first | refine wp_seq ?_ | refine nThen ?_ | refine nBlk ?_ | refine wp_skip ?_ | refine wp_block ?_ | refine wp_exit ?_ | refine xThen ?_ | refine xHere ?_ | refine wp_ret ?_ | refine rThen ?_
      exact ⟨rfl, R.length, Nat.le_refl _, hF.keep [0, 1, 4, 11], hB, hbT.below hb, hseg.below hb⟩
    by_cases hlt2 : i < A.length
    rotate_left
    · refine' reg_all hF ?_ mixed (by kernel_rfl) ?_
      rotate_left
      · repeat (first
            | exact Line.nil
            | (refine' Line.cons rfl (.no rfl rfl rfl rfl rfl rfl) ?_; rotate_left)
            | ((first | refine' Line.cons rfl (.run rfl rfl ?_) ?_ | refine' Line.cons rfl (.yes rfl rfl rfl rfl ?_) ?_)
               any_goals (first | exact cMove rfl rfl | exact cAssign rfl rfl | exact cNot rfl rfl | exact cLenH rfl (.l rfl k2) (Ty.rd_isSl _ _) Try.underlying39 | exact cFldL46 rfl (.l rfl hat) | exact cRowOf46 rfl (.t rfl) | exact cLenH rfl (.l rfl hsl) (Ty.sl_isSl _ _ _) Try.underlying39 | exact OpOk.b (c := true) (cLss rfl rfl rfl) (decide_eq_true (by omega)) | exact OpOk.b (c := false) (cLss rfl rfl rfl) (decide_eq_false (by omega)) | exact cPickT rfl rfl rfl | exact cPickF rfl rfl rfl | exact cLss rfl rfl rfl | exact cGtr rfl rfl rfl | exact cEql rfl rfl rfl | exact cNeq rfl rfl rfl | exact cExtract rfl rfl rfl)
               rotate_left))
      intro a w10 hF hb hN
      have hBs := hB.size
      replace hB := hB.trans (hb.mono hB.size)
      dsimp only [ext, Option.getD] at hF
      repeat with_reducible first | refine wp_seq ?_ | refine nThen ?_ | refine nBlk ?_ | refine wp_skip ?_ | refine wp_block ?_ | refine wp_exit ?_ | refine xThen ?_ | refine xHere ?_ | refine wp_ret ?_ | refine rThen ?_
      refine cond_f hF rfl ?_
      repeat with_reducible first | refine wp_seq ?_ | refine nThen ?_ | refine nBlk ?_ | refine wp_skip ?_ | refine wp_block ?_ | refine wp_exit ?_ | refine xThen ?_ | refine xHere ?_ | refine wp_ret ?_ | refine rThen ?_
      exact ⟨rfl, i, by omega, hF.keep [0, 1, 4, 11], hB, hbT.below hb, hseg.below hb⟩
    refine' reg_all hF ?_ mixed (by kernel_rfl) ?_
    rotate_left
    · repeat (first
          | exact Line.nil
          | (refine' Line.cons rfl (.no rfl rfl rfl rfl rfl rfl) ?_; rotate_left)
          | ((first | refine' Line.cons rfl (.run rfl rfl ?_) ?_ | refine' Line.cons rfl (.yes rfl rfl rfl rfl ?_) ?_)
             any_goals (first | exact cMove rfl rfl | exact cAssign rfl rfl | exact cNot rfl rfl | exact cLenH rfl (.l rfl k2) (Ty.rd_isSl _ _) Try.underlying39 | exact cFldL46 rfl (.l rfl hat) | exact cRowOf46 rfl (.t rfl) | exact cLenH rfl (.l rfl hsl) (Ty.sl_isSl _ _ _) Try.underlying39 | exact OpOk.b (c := true) (cLss rfl rfl rfl) (decide_eq_true (by omega)) | exact OpOk.b (c := true) (cLss rfl rfl rfl) (decide_eq_true (by omega)) | exact cPickT rfl rfl rfl | exact cPickF rfl rfl rfl | exact cLss rfl rfl rfl | exact cGtr rfl rfl rfl | exact cEql rfl rfl rfl | exact cNeq rfl rfl rfl | exact cExtract rfl rfl rfl)
             rotate_left))
    intro a w10 hF hb hN
    have hBs := hB.size
    replace hB := hB.trans (hb.mono hB.size)
    dsimp only [ext, Option.getD] at hF
    repeat with_reducible first | refine wp_seq ?_ | refine nThen ?_ | refine nBlk ?_ | refine wp_skip ?_ | refine wp_block ?_ | refine wp_exit ?_ | refine xThen ?_ | refine xHere ?_ | refine wp_ret ?_ | refine rThen ?_
    replace hbT := hbT.below hb
    replace hseg := hseg.below hb
    replace k2 := TR.below k2 hb
    refine cond_t hF rfl ?_
    repeat with_reducible first | refine wp_seq ?_ | refine nThen ?_ | refine nBlk ?_ | refine wp_skip ?_ | refine wp_block ?_ | refine wp_exit ?_ | refine xThen ?_ | refine xHere ?_ | refine wp_ret ?_ | refine rThen ?_
    have hd := flatC_at R hlt
    have hd' : (flatC R).drop (i * 65) = .int .i64 (R.getD i default).n :: ((R.getD i default).key.enc ++ (R.getD i default).check.enc ++ flatC (R.drop (i + 1))) := by rw [hd]; rfl
    obtain ⟨c, hc⟩ : ∃ c, c = R.getD i default := ⟨_, rfl⟩
    rw [← hc] at hd hd'
    refine' reg_all hF ?_ mixed (by kernel_rfl) ?_
    rotate_left
    · repeat (first
          | exact Line.nil
          | (refine' Line.cons rfl (.no rfl rfl rfl rfl rfl rfl) ?_; rotate_left)
          | ((first | refine' Line.cons rfl (.run rfl rfl ?_) ?_ | refine' Line.cons rfl (.yes rfl rfl rfl rfl ?_) ?_)
             any_goals (first | exact cMove rfl rfl | exact cAssign rfl rfl | exact cNot rfl rfl | exact cIndexR (k := i) (sz := 65) rfl (.l rfl k2) rfl Try.underlying39 info34 hlt (by rw [flatC_len]; omega) | exact cFieldR0 rfl (.t rfl) Try.underlying87 rfl size_i64 | exact cLoad1 (u := .int .i64 c.n) rfl (Has.c (.t rfl) (fun W v h => by rw [hd'] at h; exact h)) (pts_atR _) Try.underlying2 rfl | exact cPickT rfl rfl rfl | exact cPickF rfl rfl rfl | exact cLss rfl rfl rfl | exact cGtr rfl rfl rfl | exact cEql rfl rfl rfl | exact cNeq rfl rfl rfl | exact cExtract rfl rfl rfl)
             rotate_left))
    intro a w11 hF hb hN
    have hBs := hB.size
    replace hB := hB.trans (hb.mono hB.size)
    dsimp only [ext, Option.getD] at hF
    repeat with_reducible first | refine wp_seq ?_ | refine nThen ?_ | refine nBlk ?_ | refine wp_skip ?_ | refine wp_block ?_ | refine wp_exit ?_ | refine xThen ?_ | refine xHere ?_ | refine wp_ret ?_ | refine rThen ?_
    replace hbT := hbT.below hb
    replace hseg := hseg.below hb
    replace k2 := TR.below k2 hb
    refine cond_ty hF rfl (fun hnz => ?_) (fun hz => ?_)
    rotate_left
    · have hz : c.n = 0 := by simpa using hz
      have em : mixC R A (i + 1) = mixC R A i := by show (if (R.getD i default).n = 0 then _ else _) = _; rw [← hc, if_pos hz]
      repeat with_reducible first | refine wp_seq ?_ | refine nThen ?_ | refine nBlk ?_ | refine wp_skip ?_ | refine wp_block ?_ | refine wp_exit ?_ | refine xThen ?_ | refine xHere ?_ | refine wp_ret ?_ | refine rThen ?_
      refine' reg_all hF ?_ mixed (by kernel_rfl) ?_
      rotate_left
      · repeat (first
            | exact Line.nil
            | (refine' Line.cons rfl (.no rfl rfl rfl rfl rfl rfl) ?_; rotate_left)
            | ((first | refine' Line.cons rfl (.run rfl rfl ?_) ?_ | refine' Line.cons rfl (.yes rfl rfl rfl rfl ?_) ?_)
               any_goals (first | exact cMove rfl rfl | exact cAssign rfl rfl | exact cNot rfl rfl | exact cAdd (r := ((i + 1 : Nat) : Int)) rfl rfl rfl (by omega) | exact cPickT rfl rfl rfl | exact cPickF rfl rfl rfl | exact cLss rfl rfl rfl | exact cGtr rfl rfl rfl | exact cEql rfl rfl rfl | exact cNeq rfl rfl rfl | exact cExtract rfl rfl rfl)
               rotate_left))
      intro a w12 hF hb hN
      have hBs := hB.size
      replace hB := hB.trans (hb.mono hB.size)
      dsimp only [ext, Option.getD] at hF
      repeat with_reducible first | refine wp_seq ?_ | refine nThen ?_ | refine nBlk ?_ | refine wp_skip ?_ | refine wp_block ?_ | refine wp_exit ?_ | refine xThen ?_ | refine xHere ?_ | refine wp_ret ?_ | refine rThen ?_
      exact ⟨m - 1, by omega, i + 1, by omega, hF.keep [0, 1, 2, 4, 11, 13], hB, hbT.below hb, by rw [em]; exact hseg.below hb⟩
    have hnz : ¬ c.n = 0 := by simpa using hnz
    have em : mixC R A (i + 1) = (mixC R A i).set i c := by show (if (R.getD i default).n = 0 then _ else _) = _; rw [← hc, if_neg hnz]
    generalize mixC R A i = Z at *
    obtain ⟨g, off, cap, eu, eS, hsl⟩ : ∃ g off cap, s = .slice (some ⟨g, off, none⟩) A.length cap ∧ S = [g] ∧ SegL w11 87 65 g off A.length cap (flatC Z) := by
      rcases hseg.cases with ⟨_, h0, _⟩ | h
      · omega
      · exact h
    have hat := tblk_at hbT
    rw [eu] at hat
    repeat with_reducible first | refine wp_seq ?_ | refine nThen ?_ | refine nBlk ?_ | refine wp_skip ?_ | refine wp_block ?_ | refine wp_exit ?_ | refine xThen ?_ | refine xHere ?_ | refine wp_ret ?_ | refine rThen ?_
    refine' region_ty 8 mixed (by kernel_rfl) hF ?_ ?_
    rotate_left
    · simp only [List.take_succ_cons, List.take_zero]
      repeat (first
          | exact Line.nil
          | (refine' Line.cons rfl (.no rfl rfl rfl rfl rfl rfl) ?_; rotate_left)
          | ((first | refine' Line.cons rfl (.run rfl rfl ?_) ?_ | refine' Line.cons rfl (.yes rfl rfl rfl rfl ?_) ?_)
             any_goals (first | exact cMove rfl rfl | exact cAssign rfl rfl | exact cNot rfl rfl | exact cFldL46 rfl (.l rfl hat) | exact cRowOf46 rfl (.t rfl) | exact cIndexR (k := i) (sz := 65) rfl (.l rfl k2) rfl Try.underlying39 info34 hlt (by rw [flatC_len]; omega) | exact cLoadClR rfl (Has.c (.t rfl) (fun W v h => by rw [hd] at h; exact h)) | exact cIndexEx (k := i) (sz := 65) rfl rfl rfl Try.underlying39 info34 hlt2 | exact cPickT rfl rfl rfl | exact cPickF rfl rfl rfl | exact cLss rfl rfl rfl | exact cGtr rfl rfl rfl | exact cEql rfl rfl rfl | exact cNeq rfl rfl rfl | exact cExtract rfl rfl rfl)
             rotate_left))
    intro a w12 hF hb hN
    have hBs := hB.size
    replace hB := hB.trans (hb.mono hB.size)
    simp only [List.take_succ_cons, List.take_zero, List.drop_succ_cons, List.drop_zero] at hF hN ⊢
    dsimp only [ext, Option.getD] at hF
    replace hbT := hbT.below hb
    replace hsl := hsl.below hb
    refine tlStoreAt (Δ := [(0, Ty.ex (.int .u64 (seed : Int))), (1, Ty.ex (.int .i64 n)), (2, Ty.ex v2), (4, Ty.ex v4), (11, Ty.ex (.pointer (some ⟨g11, 0, none⟩))), (13, Ty.ex (.int .i64 (i : Int)))]) (k := i * 65) hF rfl rfl rfl rfl rfl hsl (by rw [Cl.size]; omega) (by rw [Cl.size]; exact info34) (Cl.one _) (hF.keep [0, 1, 2, 4, 11, 13]) rfl ?_
    intro w13 hF hsl' hk13
    refine wpList_nil ?_
    have hgS : ∀ y ∈ [g], W.heap.size ≤ y := by rw [← eS]; exact hSW
    replace hB := below_own hB hk13 hgS
    replace hbT := hbT.keeps hk13 (by simpa using segl_far hsl hbT (by decide))
    rw [show c.a.toList = c.enc from rfl, over_flatC _ _ (by omega), ← em] at hsl'
    have hseg := hsl'.seg
    rw [← eu, ← eS] at hseg
    repeat with_reducible first | refine wp_seq ?_ | refine nThen ?_ | refine nBlk ?_ | refine wp_skip ?_ | refine wp_block ?_ | refine wp_exit ?_ | refine xThen ?_ | refine xHere ?_ | refine wp_ret ?_ | refine rThen ?_
    refine' reg_all hF ?_ mixed (by kernel_rfl) ?_
    rotate_left
    · repeat (first
          | exact Line.nil
          | (refine' Line.cons rfl (.no rfl rfl rfl rfl rfl rfl) ?_; rotate_left)
          | ((first | refine' Line.cons rfl (.run rfl rfl ?_) ?_ | refine' Line.cons rfl (.yes rfl rfl rfl rfl ?_) ?_)
             any_goals (first | exact cMove rfl rfl | exact cAssign rfl rfl | exact cNot rfl rfl | exact cAdd (r := ((i + 1 : Nat) : Int)) rfl rfl rfl (by omega) | exact cPickT rfl rfl rfl | exact cPickF rfl rfl rfl | exact cLss rfl rfl rfl | exact cGtr rfl rfl rfl | exact cEql rfl rfl rfl | exact cNeq rfl rfl rfl | exact cExtract rfl rfl rfl)
             rotate_left))
    intro a w14 hF hb hN
    have hBs := hB.size
    replace hB := hB.trans (hb.mono hB.size)
    dsimp only [ext, Option.getD] at hF
    repeat with_reducible first | refine wp_seq ?_ | refine nThen ?_ | refine nBlk ?_ | refine wp_skip ?_ | refine wp_block ?_ | refine wp_exit ?_ | refine xThen ?_ | refine xHere ?_ | refine wp_ret ?_ | refine rThen ?_
    exact ⟨m - 1, by omega, i + 1, by omega, hF.keep [0, 1, 2, 4, 11, 13], hB, hbT.below hb, hseg.below hb⟩
  clear hF hB hbT hseg hb hBs
  rintro e a wr ⟨rfl, i, hi, hF, hB, hbT, hseg⟩
  have hTn := mixC_norm hR hAn i hi
  have hTl := (mixC_len R A i).trans hAl
  have hml := mixC_len R A i
  rw [← hml] at hseg
  generalize mixC R A i = Z at *
  have hgZ : goodN (Z.length : Int) = true := by rw [hTl, show ((n.toNat : Nat) : Int) = n by omega]; exact hg
  have hO := own_ty seed Z M (by omega) hsd
  have hEr := own_err (seed := seed) (L := Z) (M := M) hgZ (by rw [goodL_srt sM, decide_eq_true (by omega)])
  have hmk := own_makes (seed := seed) (M := M) hg hTn hTl sM
  have h0o := fun h => own_ok (seed := seed) (L := Z) (M := M) h
  have hnn := own_none (seed := seed) (L := Z) (M := M)
  have hPl : (ownP seed Z M).length ≤ 1025 := by
    unfold ownP
    split
    · exact resP_len
    · simp
  have hQl : (ownQ seed Z M).length ≤ 1025 := by
    unfold ownQ
    split
    · exact resM_len
    · simp
  generalize ownP seed Z M = P at *
  generalize ownQ seed Z M = Q at *
  generalize ownN seed Z M = en at *
  have hat := tblk_at hbT
  have hsl := hseg.sl
  have htb : (Ty.tab 87 seed Z).p wr (.agg #[.int .u64 (seed : Int), s]) := ⟨s, rfl, hsl⟩
  repeat with_reducible first | refine wp_seq ?_ | refine nThen ?_ | refine nBlk ?_ | refine wp_skip ?_ | refine wp_block ?_ | refine wp_exit ?_ | refine xThen ?_ | refine xHere ?_ | refine wp_ret ?_ | refine rThen ?_
  refine' reg_all hF ?_ mixed (by kernel_rfl) ?_
  rotate_left
  · repeat (first
        | exact Line.nil
        | (refine' Line.cons rfl (.no rfl rfl rfl rfl rfl rfl) ?_; rotate_left)
        | ((first | refine' Line.cons rfl (.run rfl rfl ?_) ?_ | refine' Line.cons rfl (.yes rfl rfl rfl rfl ?_) ?_)
           any_goals (first | exact cMove rfl rfl | exact cAssign rfl rfl | exact cNot rfl rfl | exact cCallS1 rfl (.l rfl (TB.below h4 hB)) f2 | exact cPickT rfl rfl rfl | exact cPickF rfl rfl rfl | exact cLss rfl rfl rfl | exact cGtr rfl rfl rfl | exact cEql rfl rfl rfl | exact cNeq rfl rfl rfl | exact cExtract rfl rfl rfl)
           rotate_left))
  intro a w20 hF hb hN
  have hBs := hB.size
  replace hB := hB.trans (hb.mono hB.size)
  dsimp only [ext, Option.getD] at hF
  repeat with_reducible first | refine wp_seq ?_ | refine nThen ?_ | refine nBlk ?_ | refine wp_skip ?_ | refine wp_block ?_ | refine wp_exit ?_ | refine xThen ?_ | refine xHere ?_ | refine wp_ret ?_ | refine rThen ?_
  replace hat := (Ty.at_ 41 [.int .u64 (seed : Int), s]).below hat hb
  replace htb := (Ty.tab 87 seed Z).below htb hb
  refine' reg_all hF ?_ mixed (by kernel_rfl) ?_
  rotate_left
  · repeat (first
        | exact Line.nil
        | (refine' Line.cons rfl (.no rfl rfl rfl rfl rfl rfl) ?_; rotate_left)
        | ((first | refine' Line.cons rfl (.run rfl rfl ?_) ?_ | refine' Line.cons rfl (.yes rfl rfl rfl rfl ?_) ?_)
           any_goals (first | exact cMove rfl rfl | exact cAssign rfl rfl | exact cNot rfl rfl | exact cLoadT46 rfl (.l rfl hat) | exact cCallH2 rfl (.l rfl htb) (Has.c (.t rfl) seg_sl) hO | exact cPickT rfl rfl rfl | exact cPickF rfl rfl rfl | exact cLss rfl rfl rfl | exact cGtr rfl rfl rfl | exact cEql rfl rfl rfl | exact cNeq rfl rfl rfl | exact cExtract rfl rfl rfl)
           rotate_left))
  intro a w21 hF hb hN
  have hBs := hB.size
  replace hB := hB.trans (hb.mono hB.size)
  dsimp only [ext, Option.getD] at hF
  repeat with_reducible first | refine wp_seq ?_ | refine nThen ?_ | refine nBlk ?_ | refine wp_skip ?_ | refine wp_block ?_ | refine wp_exit ?_ | refine xThen ?_ | refine xHere ?_ | refine wp_ret ?_ | refine rThen ?_
  replace hat := (Ty.at_ 41 [.int .u64 (seed : Int), s]).below hat hb
  replace htb := (Ty.tab 87 seed Z).below htb hb
  by_cases h0 : en = 0
  rotate_left
  · obtain rfl : en = 10 := hEr.resolve_left h0
    obtain ⟨rfl, rfl⟩ := hnn rfl
    refine' reg_all hF ?_ mixed (by kernel_rfl) ?_
    rotate_left
    · repeat (first
          | exact Line.nil
          | (refine' Line.cons rfl (.no rfl rfl rfl rfl rfl rfl) ?_; rotate_left)
          | ((first | refine' Line.cons rfl (.run rfl rfl ?_) ?_ | refine' Line.cons rfl (.yes rfl rfl rfl rfl ?_) ?_)
             any_goals (first | exact cMove rfl rfl | exact cAssign rfl rfl | exact cNot rfl rfl | exact OpOk.b (c := true) (cNeq rfl rfl rfl) rfl | exact cPickT rfl rfl rfl | exact cPickF rfl rfl rfl | exact cLss rfl rfl rfl | exact cGtr rfl rfl rfl | exact cEql rfl rfl rfl | exact cNeq rfl rfl rfl | exact cExtract rfl rfl rfl)
             rotate_left))
    intro a w22 hF hb hN
    have hBs := hB.size
    replace hB := hB.trans (hb.mono hB.size)
    dsimp only [ext, Option.getD] at hF
    repeat with_reducible first | refine wp_seq ?_ | refine nThen ?_ | refine nBlk ?_ | refine wp_skip ?_ | refine wp_block ?_ | refine wp_exit ?_ | refine xThen ?_ | refine xHere ?_ | refine wp_ret ?_ | refine rThen ?_
    refine cond_t hF rfl ?_
    repeat with_reducible first | refine wp_seq ?_ | refine nThen ?_ | refine nBlk ?_ | refine wp_skip ?_ | refine wp_block ?_ | refine wp_exit ?_ | refine xThen ?_ | refine xHere ?_ | refine wp_ret ?_ | refine rThen ?_
    refine' reg_all hF ?_ mixed (by kernel_rfl) ?_
    rotate_left
    · repeat (first
          | exact Line.nil
          | (refine' Line.cons rfl (.no rfl rfl rfl rfl rfl rfl) ?_; rotate_left)
          | ((first | refine' Line.cons rfl (.run rfl rfl ?_) ?_ | refine' Line.cons rfl (.yes rfl rfl rfl rfl ?_) ?_)
             any_goals (first | exact cMove rfl rfl | exact cAssign rfl rfl | exact cNot rfl rfl | exact OpOk.b (c := true) (cEql rfl rfl rfl) rfl | exact cLenH rfl (.t rfl) (Ty.sl_isSl _ _ _) Try.underlying25 | exact cPickT rfl rfl rfl | exact cPickF rfl rfl rfl | exact cLss rfl rfl rfl | exact cGtr rfl rfl rfl | exact cEql rfl rfl rfl | exact cNeq rfl rfl rfl | exact cExtract rfl rfl rfl)
             rotate_left))
    intro a w23 hF hb hN
    have hBs := hB.size
    replace hB := hB.trans (hb.mono hB.size)
    dsimp only [ext, Option.getD] at hF
    repeat with_reducible first | refine wp_seq ?_ | refine nThen ?_ | refine nBlk ?_ | refine wp_skip ?_ | refine wp_block ?_ | refine wp_exit ?_ | refine xThen ?_ | refine xHere ?_ | refine wp_ret ?_ | refine rThen ?_
    refine ret1 hF rfl rfl fun z hz => ?_
    exact ⟨by rw [show z = .bool true from hz], hB⟩
  subst h0
  obtain ⟨_, _, _, _, _, b1, b2⟩ := h0o rfl
  have hmk := hmk rfl
  have hMn := minus_ty M Q (by omega) (by omega)
  have hlM := minusL_len M Q
  have hE := either_ty (minusL M Q) P (by omega) (by omega)
  have hlE := setL_len (minusL M Q ++ P)
  rw [List.length_append] at hlE
  have o3 := tof_ty seed n (setL (minusL M Q ++ P)) (by omega) hsd
  rw [newE_good hg, newS_good hg, hmk] at o3
  have hBt := both_ty P M (by omega) (by omega)
  have hMq := minus_ty Q M (by omega) (by omega)
  rw [b2] at hBt
  rw [b1] at hMq
  have tO := tableOf16_ty seed Z (by omega)
  have tS := sameT16_ty seed seed Z Z (by omega)
  rw [decide_eq_true rfl, decide_eq_true rfl] at tS
  clear hmk b1 b2 hnn h0o hEr hO
  generalize setL (minusL M Q ++ P) = E at *
  generalize minusL M Q = MQ at *
  refine' reg_all hF ?_ mixed (by kernel_rfl) ?_
  rotate_left
  · repeat (first
        | exact Line.nil
        | (refine' Line.cons rfl (.no rfl rfl rfl rfl rfl rfl) ?_; rotate_left)
        | ((first | refine' Line.cons rfl (.run rfl rfl ?_) ?_ | refine' Line.cons rfl (.yes rfl rfl rfl rfl ?_) ?_)
           any_goals (first | exact cMove rfl rfl | exact cAssign rfl rfl | exact cNot rfl rfl | exact OpOk.b (c := false) (cNeq rfl rfl rfl) rfl | exact cPickT rfl rfl rfl | exact cPickF rfl rfl rfl | exact cLss rfl rfl rfl | exact cGtr rfl rfl rfl | exact cEql rfl rfl rfl | exact cNeq rfl rfl rfl | exact cExtract rfl rfl rfl)
           rotate_left))
  intro a w22 hF hb hN
  have hBs := hB.size
  replace hB := hB.trans (hb.mono hB.size)
  dsimp only [ext, Option.getD] at hF
  repeat with_reducible first | refine wp_seq ?_ | refine nThen ?_ | refine nBlk ?_ | refine wp_skip ?_ | refine wp_block ?_ | refine wp_exit ?_ | refine xThen ?_ | refine xHere ?_ | refine wp_ret ?_ | refine rThen ?_
  replace hat := (Ty.at_ 41 [.int .u64 (seed : Int), s]).below hat hb
  replace htb := (Ty.tab 87 seed Z).below htb hb
  refine cond_f hF rfl ?_
  repeat with_reducible first | refine wp_seq ?_ | refine nThen ?_ | refine nBlk ?_ | refine wp_skip ?_ | refine wp_block ?_ | refine wp_exit ?_ | refine xThen ?_ | refine xHere ?_ | refine wp_ret ?_ | refine rThen ?_
  have hB22 := hB
  have hw22 := hB.size
  replace hB := Below.refl w22.heap.size w22
  refine wp_region_lit ?_
  refine' tlOp hF rfl rfl rfl ?_ ?_
  rotate_left
  · first | exact cMove rfl rfl | exact cCallS2 rfl (Has.c (.t rfl) seg_sl) (.t rfl) hMn | exact cCallS2 rfl (Has.c (.t rfl) seg_sl) (.t rfl) hE | exact cCallR3 rfl (.t rfl) (.t rfl) (Has.c (.t rfl) seg_sl) o3 (tabE_olds _ _ _ _)
  intro a w23_0 hF hb
  replace hB := hB.trans (hb.mono hB.size)
  refine' tlOp hF rfl rfl rfl ?_ ?_
  rotate_left
  · first | exact cMove rfl rfl | exact cCallS2 rfl (Has.c (.t rfl) seg_sl) (.t rfl) hMn | exact cCallS2 rfl (Has.c (.t rfl) seg_sl) (.t rfl) hE | exact cCallR3 rfl (.t rfl) (.t rfl) (Has.c (.t rfl) seg_sl) o3 (tabE_olds _ _ _ _)
  intro a w23_1 hF hb
  replace hB := hB.trans (hb.mono hB.size)
  refine' tlOp hF rfl rfl rfl ?_ ?_
  rotate_left
  · first | exact cMove rfl rfl | exact cCallS2 rfl (Has.c (.t rfl) seg_sl) (.t rfl) hMn | exact cCallS2 rfl (Has.c (.t rfl) seg_sl) (.t rfl) hE | exact cCallR3 rfl (.t rfl) (.t rfl) (Has.c (.t rfl) seg_sl) o3 (tabE_olds _ _ _ _)
  intro a w23_2 hF hb
  replace hB := hB.trans (hb.mono hB.size)
  refine' tlOp hF rfl rfl rfl ?_ ?_
  rotate_left
  · first | exact cMove rfl rfl | exact cCallS2 rfl (Has.c (.t rfl) seg_sl) (.t rfl) hMn | exact cCallS2 rfl (Has.c (.t rfl) seg_sl) (.t rfl) hE | exact cCallR3 rfl (.t rfl) (.t rfl) (Has.c (.t rfl) seg_sl) o3 (tabE_olds _ _ _ _)
  intro a w23_3 hF hb
  replace hB := hB.trans (hb.mono hB.size)
  refine' tlOp hF rfl rfl rfl ?_ ?_
  rotate_left
  · first | exact cMove rfl rfl | exact cCallS2 rfl (Has.c (.t rfl) seg_sl) (.t rfl) hMn | exact cCallS2 rfl (Has.c (.t rfl) seg_sl) (.t rfl) hE | exact cCallR3 rfl (.t rfl) (.t rfl) (Has.c (.t rfl) seg_sl) o3 (tabE_olds _ _ _ _)
  intro a w23_4 hF hb
  replace hB := hB.trans (hb.mono hB.size)
  refine' tlOp hF rfl rfl rfl ?_ ?_
  rotate_left
  · first | exact cMove rfl rfl | exact cCallS2 rfl (Has.c (.t rfl) seg_sl) (.t rfl) hMn | exact cCallS2 rfl (Has.c (.t rfl) seg_sl) (.t rfl) hE | exact cCallR3 rfl (.t rfl) (.t rfl) (Has.c (.t rfl) seg_sl) o3 (tabE_olds _ _ _ _)
  intro a w23_5 hF hb
  replace hB := hB.trans (hb.mono hB.size)
  refine' tlOp hF rfl rfl rfl ?_ ?_
  rotate_left
  · first | exact cMove rfl rfl | exact cCallS2 rfl (Has.c (.t rfl) seg_sl) (.t rfl) hMn | exact cCallS2 rfl (Has.c (.t rfl) seg_sl) (.t rfl) hE | exact cCallR3 rfl (.t rfl) (.t rfl) (Has.c (.t rfl) seg_sl) o3 (tabE_olds _ _ _ _)
  intro a w23_6 hF hb
  replace hB := hB.trans (hb.mono hB.size)
  refine' tlOp hF rfl rfl rfl ?_ ?_
  rotate_left
  · first | exact cMove rfl rfl | exact cCallS2 rfl (Has.c (.t rfl) seg_sl) (.t rfl) hMn | exact cCallS2 rfl (Has.c (.t rfl) seg_sl) (.t rfl) hE | exact cCallR3 rfl (.t rfl) (.t rfl) (Has.c (.t rfl) seg_sl) o3 (tabE_olds _ _ _ _)
  intro a w23_7 hF hb
  replace hB := hB.trans (hb.mono hB.size)
  refine' tlOp hF rfl rfl rfl ?_ ?_
  rotate_left
  · first | exact cMove rfl rfl | exact cCallS2 rfl (Has.c (.t rfl) seg_sl) (.t rfl) hMn | exact cCallS2 rfl (Has.c (.t rfl) seg_sl) (.t rfl) hE | exact cCallR3 rfl (.t rfl) (.t rfl) (Has.c (.t rfl) seg_sl) o3 (tabE_olds _ _ _ _)
  intro a w23_8 hF hb
  replace hB := hB.trans (hb.mono hB.size)
  refine' tlOp hF rfl rfl rfl ?_ ?_
  rotate_left
  · exact cExtT rfl rfl
  intro a w23_t hF hb
  replace hB := hB.trans (hb.mono hB.size)
  refine' tlOp hF rfl rfl rfl ?_ ?_
  rotate_left
  · exact cExtE rfl rfl
  intro a w23_e hF hb
  replace hB := hB.trans (hb.mono hB.size)
  refine tlNewTab hF rfl rfl rfl (by decide) rfl (run_alloc_i infoT46) rfl rfl rfl rfl tabO_tab sizeT46 fun a w23_n hF hb => ?_
  replace hB := hB.trans (hb.mono hB.size)
  refine' tlOp hF rfl rfl rfl ?_ ?_
  rotate_left
  · exact cAssign rfl rfl
  intro a w23 hF hb
  replace hB := hB.trans (hb.mono hB.size)
  try (refine wpList_nil ?_)
  repeat with_reducible first | refine wp_seq ?_ | refine nThen ?_ | refine nBlk ?_ | refine wp_skip ?_ | refine wp_block ?_ | refine wp_exit ?_ | refine xThen ?_ | refine xHere ?_ | refine wp_ret ?_ | refine rThen ?_
  replace hat := (Ty.at_ 41 [.int .u64 (seed : Int), s]).below hat hB
  replace htb := (Ty.tab 87 seed Z).below htb hB
  repeat with_reducible first | refine wp_seq ?_ | refine nThen ?_ | refine nBlk ?_ | refine wp_skip ?_ | refine wp_block ?_ | refine wp_exit ?_ | refine xThen ?_ | refine xHere ?_ | refine wp_ret ?_ | refine rThen ?_
  refine' reg_all hF ?_ mixed (by kernel_rfl) ?_
  rotate_left
  · repeat (first
        | exact Line.nil
        | (refine' Line.cons rfl (.no rfl rfl rfl rfl rfl rfl) ?_; rotate_left)
        | ((first | refine' Line.cons rfl (.run rfl rfl ?_) ?_ | refine' Line.cons rfl (.yes rfl rfl rfl rfl ?_) ?_)
           any_goals (first | exact cMove rfl rfl | exact cAssign rfl rfl | exact cNot rfl rfl | exact OpOk.b (c := true) (cEql rfl rfl rfl) rfl | exact cLoadTab46 rfl (.t rfl) | exact cLoadT46 rfl (.l rfl hat) | exact cCallR1 rfl (.t rfl) tO (tabO_olds _ _ _) | exact cCallR1 rfl (.l rfl htb) tO (tabO_olds _ _ _) | exact cCallH2 rfl (Has.c (.t rfl) tabO_tab) (Has.c (.t rfl) tabO_tab) tS | exact cCallS2 rfl (.t rfl) (Has.c (.t rfl) seg_sl) hBt | exact cCallS2 rfl (.t rfl) (Has.c (.t rfl) seg_sl) hMq | exact cLenH rfl (.t rfl) (Ty.seg_isSl _ _ _ _ _) Try.underlying25 | exact cPickT rfl rfl rfl | exact cPickF rfl rfl rfl | exact cLss rfl rfl rfl | exact cGtr rfl rfl rfl | exact cEql rfl rfl rfl | exact cNeq rfl rfl rfl | exact cExtract rfl rfl rfl)
           rotate_left))
  intro a w24 hF hb hN
  have hBs := hB.size
  replace hB := hB.trans (hb.mono hB.size)
  dsimp only [ext, Option.getD] at hF
  repeat with_reducible first | refine wp_seq ?_ | refine nThen ?_ | refine nBlk ?_ | refine wp_skip ?_ | refine wp_block ?_ | refine wp_exit ?_ | refine xThen ?_ | refine xHere ?_ | refine wp_ret ?_ | refine rThen ?_
  refine ret1 hF rfl rfl fun z hz => ?_
  exact ⟨by rw [show z = .bool true from hz], hB22.trans (hB.mono hw22)⟩
end Go.Proofs.Ytmlbkcpmgcjblaa
