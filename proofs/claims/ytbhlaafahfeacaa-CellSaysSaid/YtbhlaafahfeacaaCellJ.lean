/- Layer 13: the walk of CellSays; a row's reading of a cell. -/
import Derived.Test.YtbhlaafahfeacaaCellP
import Derived.Test.YtbhlaafahfeacaaRow2
import Derived.Deep.Strs
namespace Go.Proofs.Ytbhlaafahfeacaa
open Go.RowKit
section
open Go.ChangeShapes Go.WideShapes

theorem cells_join {l : List Value} {v : Value} {K C : List Value} (h0 : (l.drop 0).take 1 = [v]) (h1 : (l.drop 1).take 32 = K) (h2 : (l.drop 33).take 32 = C) (hl : l.length = 65) : l = [v] ++ K ++ C := by
  subst h1 h2
  rw [← h0, List.drop_zero]
  have e1 : l = l.take 1 ++ l.drop 1 := (List.take_append_drop 1 l).symm
  have e2 : l.drop 1 = (l.drop 1).take 32 ++ (l.drop 1).drop 32 := (List.take_append_drop 32 _).symm
  have e3 : (l.drop 1).drop 32 = (l.drop 33).take 32 := by
    rw [List.drop_drop, List.take_of_length_le (by simp; omega)]
  rw [e3] at e2
  rw [List.append_assoc, ← e2, ← e1]

theorem row_cell {H : Type} {enc : TypeId × Value → H} {W : World} {sp : Nat → Bool} {r : Reach} {b0 : Nat} {v : Value} {d : DataW H} {ps : List MemPlace}
    (hv : Value.okWide Try.prog W r b0 34 v) (h : DataW.Trod enc Try.prog W 0 sp true 34 v d ps) : ∃ c : Cl, v = .agg c.a := by
  obtain ⟨cs, rfl, hsz⟩ := okWide_struct Try.underlying34 hv
  have hC : Try.prog.cellsOf 34 = 65 := by kernel_rfl
  have k2 : Try.prog.cellsOf 2 = 1 := by kernel_rfl
  have k27 : Try.prog.cellsOf 27 = 32 := by kernel_rfl
  obtain ⟨fuel, hf⟩ := h
  obtain ⟨y0, y1, y2, n, _, _, t0, t1, t2⟩ := Go.Deep.trod_struct3 Try.underlying34 hf
  obtain ⟨n0, f0, _, _⟩ := DataW.trod_int Try.underlying2 t0
  obtain ⟨K, hK⟩ := sm_of_cells Try.underlying27 Try.underlying5 (by kernel_rfl) (by kernel_rfl) t1
  obtain ⟨C, hCk⟩ := sm_of_cells Try.underlying27 Try.underlying5 (by kernel_rfl) (by kernel_rfl) t2
  refine ⟨⟨n0, K, C⟩, ?_⟩
  simp only [Value.cells, k2, k27] at f0 hK hCk
  congr 1
  apply Array.ext'
  rw [cells_join f0 hK hCk (by simpa using hsz.trans hC)]
  simp [Cl.a, cellA, u8s, Sm.enc]
end

theorem wpList_load_g' {P : Program} {ops : Array Oper} {rest : List Oper} {o : Oper} {a : Act} {w : World} {Q : Exit → Act → World → Prop} (ty : TypeId) (x : Operand) (ho : o.op = .load ty x) (u v : Value) (hx : a.eval x = u)
    (hl : (Instr.loadAt ty u).run P w = .ok v w) (hw : Region.wanted o (yielded ops a.tmps) = true) (k : wpList P ops Q rest (a.put o.dst v) w) : wpList P ops Q (o :: rest) a w :=
  wpList_valg hw v (exec_load ho hx hl) k
theorem lt4 {i : Nat} (h : i < 4) : i = 0 ∨ i = 1 ∨ i = 2 ∨ i = 3 := by omega
theorem zero27 (w : World) : (zeroValue 27).run Try.prog w = .ok (.agg (u8s (List.replicate 32 0))) w := by kernel_rfl
theorem zero47 (w : World) : (zeroValue 47).run Try.prog w = .ok (.agg (u8s (List.replicate 32 0))) w := by kernel_rfl
theorem wp_alloc_z {o : Oper} {a : Act} {w : World} {K : Act → World → Prop} {Q : Exit → Act → World → Prop} {t : TypeId} {Z : Array Value} (ho : o.op = .alloc t) (hz : ∀ w, (zeroValue t).run Try.prog w = .ok (.agg Z) w)
    (h : K (a.put o.dst (.pointer (some ⟨w.heap.size, 0, none⟩))) (w.alloc (.cells Z t))) : o.wp Try.prog a w K Q := by
  unfold Oper.wp execOp
  rw [ho]
  simp [go_sem, hz]
  exact h
theorem wp_call1 {P : Program} {o : Oper} {a : Act} {w : World} {K : Act → World → Prop} {Q : Exit → Act → World → Prop} {f : FuncId} {s : Nat} {ats : Array TypeId} {v u : Value} (ho : o.op = .call { callee := .value (.func f), args := #[.tmp s], argTypes := ats }) (hs : a.tmps[s]? = some v)
    (hr : (callFunc f #[v]).run P w = .ok (.enter f #[v]) w) (hc : Calls P f #[v] w fun e w' => e = .returned u ∧ Below w.heap.size w w') (h : ∀ w', Below w.heap.size w w' → K (a.put o.dst u) w') : o.wp P a w K Q := by
  have hx : execOp a.eval o = callFunc f #[v] := by
    cases o
    simp only at ho
    subst ho
    rw [execOp_call_go]
    simp [eval_tmp hs]
  unfold Oper.wp
  rw [hx, hr, Oper.upon_enter]
  refine hc.mono ?_
  rintro e w' ⟨rfl, hb⟩
  exact h w' hb
theorem enter_cellOf (v : Value) (w : World) : (callFunc 29 #[v]).run Try.prog w = .ok (.enter 29 #[v]) w := by kernel_rfl
theorem quiet_buildz49 {o : Oper} {a : Act} {W : World → Prop} {Q : Act → Prop} (ho : o.op = .build 49 #[]) (hk : Q (a.put o.dst (.agg zero65))) : o.quiet Try.prog a W Q :=
  ⟨_, fun w _ => by
    have h := build_zero49 w
    unfold Oper.quietAt execOp
    rw [ho]
    simp [h, Oper.quietUpon], hk⟩
/-- The walk stops here. -/
def Held (p : Prop) : Prop := p
theorem wpList_held {P : Program} {ops : Array Oper} {rest : List Oper} {o : Oper} {a : Act} {w : World} {Q : Exit → Act → World → Prop} (d : Nat) (ty : TypeId) (s : Nat) (_ : o.dst = some d) (_ : o.op = .load ty (.tmp s)) (h : Held (wpList P ops Q (o :: rest) a w)) : wpList P ops Q (o :: rest) a w := h
theorem wpList_later {P : Program} {ops : Array Oper} {l : List Oper} {a : Act} {w : World} {Q : Exit → Act → World → Prop}
    (h : wpQuiet P ops (fun w' => ∃ p : Later w, w' = p.wd) (fun a' => ∀ w', (∃ p : Later w, w' = p.wd) → Q .normal a' w') l a) : wpList P ops Q l a w := by
  have h2 := wpList_quiet (P := P) (ops := ops) (C := fun w' => ∃ p : Later w, w' = p.wd) (Q := Q) (rest := []) l a w ⟨⟨w, Below.refl _ _⟩, rfl⟩ h
  rwa [List.append_nil] at h2

set_option maxRecDepth 100000 in
set_option maxHeartbeats 4000000 in
theorem lawCellSays_any (a b : Cl) (x : Sm) (w : World) :
    Calls Try.prog 10 #[.agg a.a, .agg b.a, .agg (u8s x.l)] w fun e w' => e = .returned (.bool true) ∧ Below w.heap.size w w' := by
  go_enter Try.func10, Try.ntmps10
  go_wp2_with fail
  refine (awake13_any _).mono ?_
  rintro e w1 ⟨rfl, hb1⟩
  have hA : Blk w1 w.heap.size 34 a.a := (((Blk.new w _ _).alloc _).alloc _).below hb1
  have hB : Blk w1 (w.heap.size + 1) 34 b.a := ((Blk.newAt (w.alloc _) _ _ _ (by simp)).alloc _).below hb1
  have hX : Blk w1 (w.heap.size + 1 + 1) 26 (u8s x.l) := (Blk.newAt ((w.alloc _).alloc _) _ _ _ (by simp)).below hb1
  have hb : Below w.heap.size w w1 := ((((Keeps.refl [] w).alloc _).alloc _).alloc _).below.trans (hb1.mono (by simp; omega))
  clear hb1
  go_wp2_with fail
  refine region_decl (m := 2) (k := 2) ⟨fun i => [17, 18].getD i (0), fun i => .agg ([u8s x.l, u8s x.l].getD i (u8s x.l)), fun i => [7, 8].getD i (0), fun i => [0, 1].getD i (0), fun i => [u8s x.l, u8s x.l].getD i (u8s x.l), fun i => [27, 47].getD i (27), fun _ => u8s (List.replicate 32 0)⟩
    (by kernel_rfl) (backB_spec (by kernel_rfl)) rfl ?_ ?_ ?_ ?_ ?_ ?_ ?_ ?_ ?_
  · intro i o hi ho
    have hout : ∀ {s : Nat}, s = 5 → (∀ i, i < 2 → s ≠ [17, 18].getD i 0) ∧ ∀ i, i < 2 → s ≠ [7, 8].getD i 0 := by
      intro s hs
      constructor
      · intro i hi; rcases lt2 hi with rfl | rfl <;> simp <;> omega
      · intro i hi; rcases lt2 hi with rfl | rfl <;> simp <;> omega
    rcases lt2 hi with rfl | rfl
    · injection ho with ho
      subst ho
      exact ⟨rfl, rfl, fun a w' K h1 h2 _ h4 => wp_load_a32 5 rfl (w.heap.size + 1 + 1) _ x ((h1 5 (hout (by simp))).trans rfl) (hX.keeps h2 (by simp)) (h4 w' (Keeps.refl _ _))⟩
    · injection ho with ho
      subst ho
      exact ⟨rfl, rfl, fun a w' K h1 h2 _ h4 => wp_load_a32 5 rfl (w.heap.size + 1 + 1) _ x ((h1 5 (hout (by simp))).trans rfl) (hX.keeps h2 (by simp)) (h4 w' (Keeps.refl _ _))⟩
  · intro j o hj ho
    rcases lt2 hj with rfl | rfl
    · injection ho with ho; subst ho; exact ⟨rfl, rfl, fun a w' K h => wp_alloc_z rfl zero27 h⟩
    · injection ho with ho; subst ho; exact ⟨rfl, rfl, fun a w' K h => wp_alloc_z rfl zero47 h⟩
  · intro j o hj ho
    rcases lt2 hj with rfl | rfl
    · injection ho with ho; subst ho
      exact ⟨rfl, rfl, rfl, by simp, rfl, ⟨_, Array.mem_of_getElem? (i := 0) rfl, rfl, rfl⟩, ⟨_, Array.mem_of_getElem? (i := 1) rfl, rfl, rfl⟩, (by show (u8s x.l).size = (u8s (List.replicate 32 0)).size; rw [u8s_size, u8s_size, x.len]; rfl), info32.trans (congrArg some x.size.symm), u8s_one _⟩
    · injection ho with ho; subst ho
      exact ⟨rfl, rfl, rfl, by simp, rfl, ⟨_, Array.mem_of_getElem? (i := 0) rfl, rfl, rfl⟩, ⟨_, Array.mem_of_getElem? (i := 1) rfl, rfl, rfl⟩, (by show (u8s x.l).size = (u8s (List.replicate 32 0)).size; rw [u8s_size, u8s_size, x.len]; rfl), info47.trans (congrArg some x.size.symm), u8s_one _⟩
  · intro i j hi hj hne
    rcases lt2 hi with rfl | rfl <;> rcases lt2 hj with rfl | rfl <;> simp at hne ⊢
  · intro i j hi hj hne
    rcases lt2 hi with rfl | rfl <;> rcases lt2 hj with rfl | rfl <;> simp at hne ⊢
  · intro i j hi hj
    rcases lt2 hi with rfl | rfl <;> rcases lt2 hj with rfl | rfl <;> simp
  · intro i hi
    rcases lt2 hi with rfl | rfl <;> simp
  · intro i hi
    rcases lt2 hi with rfl | rfl <;> simp
  · intro g a2 w2 hk hg hgn hd hs h1 h2 h3
    have hact := act_is (a := a2) [(17, .agg (u8s x.l)), (18, .agg (u8s x.l)), (7, .pointer (some ⟨g 0, 0, none⟩)), (8, .pointer (some ⟨g 1, 0, none⟩))] hd hs ?_ ?_
    rotate_left
    · intro s hs'
      refine h1 s ⟨fun i hi => ?_, fun i hi => ?_⟩
      · rcases lt2 hi with rfl | rfl <;> simp at hs' ⊢ <;> omega
      · rcases lt2 hi with rfl | rfl <;> simp at hs' ⊢ <;> omega
    · intro p hp
      simp only [List.mem_cons, List.not_mem_nil, or_false] at hp
      rcases hp with rfl | rfl | rfl | rfl
      · exact h2 0 (by omega)
      · exact h2 1 (by omega)
      · exact h3 0 (by omega)
      · exact h3 1 (by omega)
    rw [hact]
    simp only [fold1, List.foldl_cons, List.foldl_nil, List.setIfInBounds_toArray, List.set_cons_succ, List.set_cons_zero]
    obtain ⟨g0, hY0⟩ := hg 0 (by omega)
    obtain ⟨g1, hZ0⟩ := hg 1 (by omega)
    have hA2 := hA.keeps hk (by simp)
    have hB2 := hB.keeps hk (by simp)
    have hb2 : Below w.heap.size w w2 := (hb.trans (hk.below.mono hb.size))
    clear hact h1 h2 h3 hd hs hg hgn hX hA hB hk hb
    generalize g 0 = gy at *
    generalize g 1 = gz at *
    have hY : Blk w2 gy 27 (u8s x.l) := hY0
    have hZ : Blk w2 gz 47 (u8s x.l) := hZ0
    clear hY0 hZ0 g0 g1
    go_wp2_with fail
    refine region_decl (m := 4) (k := 2) ⟨fun i => [19, 20, 21, 22].getD i (0), fun i => .agg ([a.a, a.a, b.a, b.a].getD i (a.a)), fun i => [9, 10].getD i (0), fun i => [1, 3].getD i (0), fun i => [a.a, b.a].getD i (a.a), fun i => [49, 49].getD i (49), fun _ => zero65⟩
      (by kernel_rfl) (backB_spec (by kernel_rfl)) rfl ?_ ?_ ?_ ?_ ?_ ?_ ?_ ?_ ?_
    · intro i o hi ho
      have hout : ∀ {s : Nat}, s = 3 ∨ s = 4 → (∀ i, i < 4 → s ≠ [19, 20, 21, 22].getD i 0) ∧ ∀ i, i < 2 → s ≠ [9, 10].getD i 0 := by
        intro s hs
        constructor
        · intro i hi; rcases lt4 hi with rfl | rfl | rfl | rfl <;> simp <;> omega
        · intro i hi; rcases lt2 hi with rfl | rfl <;> simp <;> omega
      rcases lt4 hi with rfl | rfl | rfl | rfl
      · injection ho with ho
        subst ho
        exact ⟨rfl, rfl, fun ac w' K h1 h2 _ h4 => wp_load_row 34 (.tmp 3) rfl w.heap.size (eval_tmp ((h1 3 (hout (by simp))).trans rfl)) _ a.a (0, 0) _ (hA2.keeps h2 (by simp)) Try.underlying34 rfl (info34.trans (congrArg some a.size.symm)) (h4 w' (Keeps.refl _ _))⟩
      · injection ho with ho
        subst ho
        exact ⟨rfl, rfl, fun ac w' K h1 h2 h3 h4 => wp_call1 rfl (show ac.tmps[19]? = some (.agg a.a) from h3 0 (by omega) ⟨_, Array.mem_of_getElem? (i := 0) rfl, rfl, rfl⟩) (enter_cellOf _ _) (cellOf_any a w') (fun w'' hb => h4 w'' (Keeps.of_below hb))⟩
      · injection ho with ho
        subst ho
        exact ⟨rfl, rfl, fun ac w' K h1 h2 _ h4 => wp_load_row 34 (.tmp 4) rfl (w.heap.size + 1) (eval_tmp ((h1 4 (hout (by simp))).trans rfl)) _ b.a (0, 0) _ (hB2.keeps h2 (by simp)) Try.underlying34 rfl (info34.trans (congrArg some b.size.symm)) (h4 w' (Keeps.refl _ _))⟩
      · injection ho with ho
        subst ho
        exact ⟨rfl, rfl, fun ac w' K h1 h2 h3 h4 => wp_call1 rfl (show ac.tmps[21]? = some (.agg b.a) from h3 2 (by omega) ⟨_, Array.mem_of_getElem? (i := 0) rfl, rfl, rfl⟩) (enter_cellOf _ _) (cellOf_any b w') (fun w'' hb => h4 w'' (Keeps.of_below hb))⟩
    · intro j o hj ho
      rcases lt2 hj with rfl | rfl
      · injection ho with ho; subst ho; exact ⟨rfl, rfl, fun a w' K h => wp_alloc_z rfl zero49 h⟩
      · injection ho with ho; subst ho; exact ⟨rfl, rfl, fun a w' K h => wp_alloc_z rfl zero49 h⟩
    · intro j o hj ho
      rcases lt2 hj with rfl | rfl
      · injection ho with ho; subst ho
        exact ⟨rfl, rfl, rfl, by simp, rfl, ⟨_, Array.mem_of_getElem? (i := 0) rfl, rfl, rfl⟩, ⟨_, Array.mem_of_getElem? (i := 1) rfl, rfl, rfl⟩, a.size.trans zero65_size.symm, info49.trans (congrArg some a.size.symm), a.one⟩
      · injection ho with ho; subst ho
        exact ⟨rfl, rfl, rfl, by simp, rfl, ⟨_, Array.mem_of_getElem? (i := 0) rfl, rfl, rfl⟩, ⟨_, Array.mem_of_getElem? (i := 1) rfl, rfl, rfl⟩, b.size.trans zero65_size.symm, info49.trans (congrArg some b.size.symm), b.one⟩
    · intro i j hi hj hne
      rcases lt4 hi with rfl | rfl | rfl | rfl <;> rcases lt4 hj with rfl | rfl | rfl | rfl <;> simp at hne ⊢
    · intro i j hi hj hne
      rcases lt2 hi with rfl | rfl <;> rcases lt2 hj with rfl | rfl <;> simp at hne ⊢
    · intro i j hi hj
      rcases lt4 hi with rfl | rfl | rfl | rfl <;> rcases lt2 hj with rfl | rfl <;> simp
    · intro i hi
      rcases lt4 hi with rfl | rfl | rfl | rfl <;> simp
    · intro i hi
      rcases lt2 hi with rfl | rfl <;> simp
    · intro g a3 w3 hk hg hgn hd hs h1 h2 h3
      have hact := act_is (a := a3) [(19, .agg (a.a)), (20, .agg (a.a)), (21, .agg (b.a)), (22, .agg (b.a)), (9, .pointer (some ⟨g 0, 0, none⟩)), (10, .pointer (some ⟨g 1, 0, none⟩))] hd hs ?_ ?_
      rotate_left
      · intro s hs'
        refine h1 s ⟨fun i hi => ?_, fun i hi => ?_⟩
        · rcases lt4 hi with rfl | rfl | rfl | rfl <;> simp at hs' ⊢ <;> omega
        · rcases lt2 hi with rfl | rfl <;> simp at hs' ⊢ <;> omega
      · intro p hp
        simp only [List.mem_cons, List.not_mem_nil, or_false] at hp
        rcases hp with rfl | rfl | rfl | rfl | rfl | rfl
        · exact h2 0 (by omega)
        · exact h2 1 (by omega)
        · exact h2 2 (by omega)
        · exact h2 3 (by omega)
        · exact h3 0 (by omega)
        · exact h3 1 (by omega)
      rw [hact]
      simp only [fold1, List.foldl_cons, List.foldl_nil, List.setIfInBounds_toArray, List.set_cons_succ, List.set_cons_zero]
      obtain ⟨g0, hV0⟩ := hg 0 (by omega)
      obtain ⟨g1, hW0⟩ := hg 1 (by omega)
      have hA3 := hA2.keeps hk (by simp)
      have hB3 := hB2.keeps hk (by simp)
      have hY3 := hY.keeps hk (by simp)
      have hZ3 := hZ.keeps hk (by simp)
      have hb3 : Below w.heap.size w w3 := (hb2.trans (hk.below.mono hb2.size))
      clear hact h1 h2 h3 hd hs hg hgn hA2 hB2 hY hZ hk hb2
      generalize g 0 = gv at *
      generalize g 1 = gw at *
      have hV : Blk w3 gv 49 a.a := hV0
      have hW : Blk w3 gw 49 b.a := hW0
      clear hV0 hW0 g0 g1
      have hcs : (a.ok = false ∧ a.plus = false ∧ a.sum = Sm.zero) ∨ (a.ok = true ∧ a.plus = true ∧ a.n = 1 ∧ a.sum = a.key) ∨ (a.ok = true ∧ a.plus = false ∧ a.n = -1 ∧ a.sum = a.key) := by
        unfold Cl.plus Cl.sum
        cases hok : a.ok with
        | false => exact .inl ⟨rfl, rfl, rfl⟩
        | true =>
          by_cases h1 : a.n = 1
          · exact .inr (.inl ⟨rfl, by rw [h1]; rfl, h1, rfl⟩)
          · refine .inr (.inr ⟨rfl, by rw [decide_eq_false h1]; rfl, ?_, rfl⟩)
            unfold Cl.ok at hok
            rw [decide_eq_false h1] at hok
            simp at hok
            exact hok.1
      have HPU := Lib.hid (fun W => Pure_any a W)
      have HRP := Lib.hid (fun W => R13Pure_any a W)
      have HO := Lib.hid (fun W => CellOf_any x W)
      have HCK := Lib.hid (fun W => Check_any x W)
      have HPT := Lib.hid (fun W => Put_any a x W)
      have HTK := Lib.hid (fun W => Take_any a x W)
      have HP1 := Lib.hid (fun W => PutCell_any a x 1 W)
      have HP2 := Lib.hid (fun W => PutCell_any a x (-1) W)
      have HC1 := Lib.hid (fun W => cellOf_any (a.put x 1) W)
      have HC2 := Lib.hid (fun W => cellOf_any (a.put x (-1)) W)
      have HC3 := Lib.hid (fun W => cellOf_any (a.minus b) W)
      have HMN := Lib.hid (fun W => Minus_any a b W)
      have HMC := Lib.hid (fun W => MinusCell_any a b W)
      have HZR := Lib.hid (fun W => CellZero_any a W)
      have HZS := Lib.hid (fun W => Zero_any Sm.zero W)
      rw [decide_eq_true rfl] at HZS
      have E1 : Hid (∀ W, (binOp .eql 47 (.agg (u8s (chk x).l)) (.agg (u8s (chk x).l))).run Try.prog W = .ok (.bool true) W) := fun W => by rw [eql_ref, decide_eq_true rfl]
      have E2 : Hid (∀ W, (binOp .eql 49 (.agg (a.put x 1).a) (.agg (a.put x 1).a)).run Try.prog W = .ok (.bool true) W) := fun W => by rw [eql_cl49, decide_eq_true rfl]
      have E3 : Hid (∀ W, (binOp .eql 49 (.agg (a.put x (-1)).a) (.agg (a.put x (-1)).a)).run Try.prog W = .ok (.bool true) W) := fun W => by rw [eql_cl49, decide_eq_true rfl]
      have E4 : Hid (∀ W, (binOp .eql 49 (.agg (a.minus b).a) (.agg (a.minus b).a)).run Try.prog W = .ok (.bool true) W) := fun W => by rw [eql_cl49, decide_eq_true rfl]
      have E5 : Hid (∀ W, (binOp .eql 27 (.agg (u8s a.key.l)) (.agg (u8s a.key.l))).run Try.prog W = .ok (.bool true) W) := fun W => by rw [eql_sm, decide_eq_true rfl]
      have E6 := Lib.hid (fun W => eql_cl49 a Cl.zero W)
      have hz0 : Cl.zero.a = zero65 := rfl
      rw [hz0] at E6
      have hgd : Try.prog.eqGuardType Try.prog.depth 47 = false := by kernel_rfl
      have hge : Try.prog.eqGuardType Try.prog.depth 49 = false := by kernel_rfl
      have hgf : Try.prog.eqGuardType Try.prog.depth 27 = false := by kernel_rfl
      have hi49 := Lib.hid (info49.trans (congrArg some a.size.symm))
      have hi34 := Lib.hid (info34.trans (congrArg some a.size.symm))
      have hi27 := Lib.hid (info32.trans (congrArg some a.sum.size.symm))
      have hsz32 : Hid ((u8s a.sum.l).size = (u8s (List.replicate 32 0)).size) := by unfold Hid; rw [a.sum.size, u8s_size]; rfl
      have ho27 := Lib.hid (u8s_one a.sum.l)
      have LS := Lib.hid (fun W g (h : Blk W g 27 (u8s a.sum.l)) => load_sum a.sum h)
      have LA := Lib.hid (fun W (h : Blk W w.heap.size 34 a.a) => later_cell34 a h)
      have LK := Lib.hid (fun W (h : Blk W w.heap.size 34 a.a) => later_key34 a h)
      have LB := Lib.hid (fun W (h : Blk W (w.heap.size + 1) 34 b.a) => later_cell34 b h)
      have LY := Lib.hid (fun W (h : Blk W gy 27 (u8s x.l)) => load_sum x h)
      have LZ := Lib.hid (fun W (h : Blk W gz 47 (u8s x.l)) => load_ref x h)
      have LV := Lib.hid (fun W (h : Blk W gv 49 a.a) => later_cell49 a h)
      have LN := Lib.hid (fun W (h : Blk W gv 49 a.a) => later_n49 a h)
      have LW := Lib.hid (fun W (h : Blk W gw 49 b.a) => later_cell49 b h)
      clear hz0
      rcases hcs with ⟨q1, q2, q3⟩ | ⟨q1, q2, q4, q3⟩ | ⟨q1, q2, q4, q3⟩
      all_goals
        rw [q1, q2, q3] at HPU
        rw [q3] at hi27 hsz32 ho27 LS
        rw [q1] at HRP
        try rw [q4] at LN
        clear q1 q2 q3
        try clear q4
        generalize decide (a = Cl.zero) = c0 at *
        generalize (a.put x 1).a = PA at *
        generalize (a.put x (-1)).a = TA at *
        generalize (a.minus b).a = MA at *
        generalize u8s (chk x).l = CK at *
        generalize u8s a.key.l = KA at *
        generalize u8s Sm.zero.l = N0 at *
        generalize a.a = AA at *
        generalize b.a = BA at *
        generalize u8s x.l = X at *
        generalize a.n = NN at *
        go_wp2_with (first
          | (refine wpList_load_g' 49 (.tmp 9) rfl _ _ rfl (load_blk (hV.keeps hk35 (by simp)) Try.underlying49 rfl hi49.out) rfl ?_)
          | (go_at_call 30
             (with_reducible refine (HRP.out _).mono ?_)
             rintro e w6 ⟨rfl, hb6⟩)
          | (refine wpList_load_g' 34 (.tmp 3) rfl _ _ rfl (load_blk hA3 Try.underlying34 rfl hi34.out) rfl ?_)
          | (go_at_call 22
             (with_reducible refine (HPU.out _).mono ?_)
             rintro e w4 ⟨rfl, hb4⟩)
          | (refine wpList_store_blk rfl 27 (.tmp 11) (.tmp 26) rfl w4.heap.size 27 _ _ rfl rfl (Blk.new w4 _ _) hsz32.out hi27.out ho27.out ?_
             intro w5 hS5 hk5
             have hk35 : Keeps [] w3 w5 := ((Keeps.of_below hb4).alloc _).trans' hk5 (by have := hb4.size; simp; omega)))
        have hb35 : Below w3.heap.size w3 w6 := hk35.below.trans (hb6.mono hk35.size)
        have lA := LA.out w6 (hA3.below hb35)
        have lK := LK.out w6 (hA3.below hb35)
        have lB := LB.out w6 (hB3.below hb35)
        have lY := LY.out w6 (hY3.below hb35)
        have lZ := LZ.out w6 (hZ3.below hb35)
        have lV := LV.out w6 (hV.below hb35)
        have lN := LN.out w6 (hV.below hb35)
        have lW := LW.out w6 (hW.below hb35)
        have lS := LS.out w6 _ (hS5.below hb6)
        have hb5 := hb3.trans (hb35.mono hb3.size)
        clear hk35 hb6 hb35 hA3 hB3 hY3 hZ3 hV hW hS5 hb3 hb4 hk5 LA LK LB LY LZ LV LN LW LS HPU hi34 hi49 hi27 hsz32 ho27
        generalize w4.heap.size = gs at *
        refine wp_region_later (by kernel_rfl) (by kernel_rfl) ?_
        simp only [List.append_eq, List.cons_append, List.nil_append]
        repeat (first
          | go_big_quiet_skip
          | (go_big_quiet_want
             first
             | ((first | refine quiet_load _ _ rfl _ _ rfl lV ?_ | refine quiet_load _ _ rfl _ _ rfl lN ?_ | refine quiet_load _ _ rfl _ _ rfl lA ?_ | refine quiet_load _ _ rfl _ _ rfl lB ?_ | refine quiet_load _ _ rfl _ _ rfl lY ?_ | refine quiet_load _ _ rfl _ _ rfl lZ ?_ | refine quiet_load _ _ rfl _ _ rfl lW ?_ | refine quiet_load _ _ rfl _ _ rfl lS ?_ | refine quiet_load _ _ rfl _ _ rfl lK ?_ | refine quiet_eql _ _ _ _ rfl _ _ _ rfl rfl hgd E1.out ?_ | refine quiet_eql _ _ _ _ rfl _ _ _ rfl rfl hge E2.out ?_ | refine quiet_eql _ _ _ _ rfl _ _ _ rfl rfl hge E3.out ?_ | refine quiet_eql _ _ _ _ rfl _ _ _ rfl rfl hge E4.out ?_ | refine quiet_eql _ _ _ _ rfl _ _ _ rfl rfl hgf E5.out ?_ | refine quiet_eql _ _ _ _ rfl _ _ _ rfl rfl hge E6.out ?_ | refine quiet_buildz49 rfl ?_)
                simp only [Act.put, List.setIfInBounds_toArray, List.set_cons_succ, List.set_cons_zero]
                go_big_quiet_on)
             | (go_big_quiet_op
                first
                | go_big_quiet_on
                | (go_big_quiet_call (first
                  | (go_at_call 30; with_reducible exact later_of (HRP.out _))
                  | (go_at_call 27; with_reducible exact later_of (HO.out _))
                  | (go_at_call 31; with_reducible exact later_of (HCK.out _))
                  | (go_at_call 20; with_reducible exact later_of (HPT.out _))
                  | (go_at_call 21; with_reducible exact later_of (HTK.out _))
                  | (go_at_call 32; first | with_reducible exact later_of (HP1.out _) | with_reducible exact later_of (HP2.out _))
                  | (go_at_call 29; first | with_reducible exact later_of (HC1.out _) | with_reducible exact later_of (HC2.out _) | with_reducible exact later_of (HC3.out _))
                  | (go_at_call 26; with_reducible exact later_of (HMN.out _))
                  | (go_at_call 33; with_reducible exact later_of (HMC.out _))
                  | (go_at_call 28; with_reducible exact later_of (HZR.out _))
                  | (go_at_call 18; with_reducible exact later_of (HZS.out _)))))))
        refine wpQuiet_nil ?_
        rintro _ ⟨p, rfl⟩
        have hbf := hb5.trans (p.below.mono hb5.size)
        go_wp2_with fail
        go_ret
        exact ⟨rfl, hbf⟩
end Go.Proofs.Ytbhlaafahfeacaa
