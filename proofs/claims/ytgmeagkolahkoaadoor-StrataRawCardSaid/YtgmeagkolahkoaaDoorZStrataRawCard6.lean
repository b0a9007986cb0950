/- Joined: StraD, StraI, PeelK, StraE, StraJ, Row, Row2, RowD, LawStrataRaw. -/
import Derived.ProofKit
import Derived.OpenShut
import Derived.ShutString
import Derived.ChangeOld
import Derived.SizedLaws
import Derived.ChangeSlices
import Derived.Carry
import Derived.Deep.Strs
import Derived.Test.YtgmeagkolahkoaaDoorRows
import Derived.Deep.DeepHandedRow
import Derived.Lib.LaidTab
import Derived.Test.YtgmeagkolahkoaaDoorZStrataRawCard5
/- Strata by types: strata.Of. -/
namespace Go.Proofs.YtgmeagkolahkoaaDoor
open Go.RowKit

abbrev LvT : TypeId := 58
theorem made_ones {z : Value} (hz : z.cells = #[z]) (n : Nat) : (madeCells z.cells (n * 1)).toList = List.replicate n z := by
  rw [hz, Nat.mul_one]
  simp only [madeCells]
  refine List.eq_replicate_iff.2 ⟨by simp, fun b hb => ?_⟩
  simp only [Array.toList_map, Array.toList_range, List.mem_map] at hb
  obtain ⟨x, _, rfl⟩ := hb
  show #[z][x % 1]! = z
  rw [Nat.mod_one]; rfl
/-- The cells of ten levels. -/
def lvCells (u : Nat → Value) : List Value := (List.range 10).map u
def upd {α : Type} (u : Nat → α) (i : Nat) (v : α) : Nat → α := fun j => if j = i then v else u j
theorem upd_eq {α : Type} (u : Nat → α) (i : Nat) (v : α) : upd u i v i = v := if_pos rfl
theorem upd_ne {α : Type} (u : Nat → α) {i j : Nat} (v : α) (h : j ≠ i) : upd u i v j = u j := if_neg h
theorem lvCells_set (u : Nat → Value) {i : Nat} (h : i < 10) (v : Value) : splice (lvCells u).toArray i [v] = (lvCells (upd u i v)).toArray := by
  apply Array.ext_getElem?
  intro j
  unfold lvCells
  by_cases hj : j = i
  · subst hj
    simp [splice, upd, h]
  · have hj' : ¬ i = j := fun e => hj e.symm
    by_cases h10 : j < 10 <;> simp [splice, upd, hj, hj', h10]
theorem infoLv : (Tryd.prog.info? 34).map (fun i => (i.zero, i.size, i.bytes)) = some (some nilS, 1, 24) := by kernel_rfl
set_option maxRecDepth 100000 in
theorem run_makeLv (w : World) : (Instr.makeSlice LvT (.int .i64 10) (.int .i64 10)).run Tryd.prog w = .ok (.slice (some ⟨w.heap.size, 0, none⟩) 10 10) (w.alloc (.cells (lvCells fun _ => nilS).toArray 34)) := by
  obtain ⟨i, h1, h2, h3, h4⟩ := info_parts infoLv
  have h := run_make (P := Tryd.prog) w LvT 34 i _ Tryd.underlying58 h1 h2 .i64 .i64 10 10 (by omega) (Int.le_refl _) (by rw [h4]; decide) (by omega)
  rw [show (10 : Int).toNat = 10 from rfl, h3] at h
  rw [h]
  congr 3
  exact Array.toList_inj.1 (by rw [made_ones rfl]; rfl)
/-- Ten levels of nothing. -/
def Ty.lv0 (w0 : World) : Ty := ⟨fun w v => ∃ g, v = .slice (some ⟨g, 0, none⟩) 10 10 ∧ w0.heap.size ≤ g ∧ Blk w g 34 (lvCells fun _ => nilS).toArray, fun t => t == 34, fun {w w' v G} ⟨g, h1, h2, h3⟩ k hA => ⟨g, h1, h2, h3.keeps k fun hm => by
  obtain ⟨cs', t, fr', k2, k3⟩ := hA g hm h3.lt
  have hb := h3
  unfold Blk at hb
  rw [hb] at k2
  simp only [Option.some.injEq, Obj.cells.injEq] at k2
  rw [← k2.2.1] at k3
  simp at k3⟩⟩
theorem cMakeLv {w0 : World} {Γ : Ctx} {o : Oper} (ho : o.op = .makeSlice LvT (.const (.int .i64 10)) (.const (.int .i64 10))) : OpOk Tryd.prog w0 Γ o (Ty.lv0 w0) :=
  .new fun a w hb _ => ⟨_, _, ⟨w.heap.size, rfl, hb.size, Blk.new w _ _⟩, ((Keeps.refl [] w).alloc _).below, by
    have hc : a.eval (.const (.int .i64 10)) = .int .i64 10 := rfl
    unfold execOp
    simp only [ho, hc]
    rw [Sem.run_bind, run_makeLv w]
    rfl⟩
/-- The levels' memory. -/
structure LvMem (w : World) (g : Nat) (u : Nat → Value) (S : Nat → List Nat) (D : List Sm) : Prop where
  blk : Blk w g 34 (lvCells u).toArray
  seg : ∀ i, i < 10 → Seg w 25 32 (u i) (lvl D i).length (flat (lvl D i)) (S i)
  apart : ∀ i j, i < 10 → j < 10 → i ≠ j → ∀ y ∈ S i, y ∉ S j
theorem LvMem.below {w w' : World} {g : Nat} {u : Nat → Value} {S : Nat → List Nat} {D : List Sm} (h : LvMem w g u S D) (hb : Below w.heap.size w w') : LvMem w' g u S D := ⟨h.blk.below hb, fun i hi => (h.seg i hi).below hb, h.apart⟩
theorem LvMem.nil {w : World} {g : Nat} (h : Blk w g 34 (lvCells fun _ => nilS).toArray) : LvMem w g (fun _ => nilS) (fun _ => []) [] := ⟨h, fun i _ => Seg.nil w 25 32, fun _ _ _ _ _ y hy => by cases hy⟩
theorem LvMem.at_ {w : World} {g : Nat} {u : Nat → Value} {S : Nat → List Nat} {D : List Sm} (h : LvMem w g u S D) {i : Nat} (hi : i < 10) : (Ty.at_ 34 [u i]).p w (.pointer (some ⟨g, 0 + i * 1, none⟩)) := by
  refine ⟨g, 0 + i * 1, _, (0, 0), rfl, h.blk, fun j v hj => ?_⟩
  cases j with
  | succ j => simp at hj
  | zero =>
    have hj : some (u i) = some v := hj
    rw [← hj]
    simp [lvCells, hi]
theorem lvl_snoc (D : List Sm) (x : Sm) (j : Nat) : lvl (D ++ [x]) j = if levelS x = j then lvl D j ++ [x] else lvl D j := by
  unfold lvl
  rw [List.filter_append]
  by_cases h : levelS x = j
  · rw [if_pos h]; simp [h]
  · rw [if_neg h]; simp [h]
theorem LvMem.next {w w' w'' : World} {g i : Nat} {u : Nat → Value} {S : Nat → List Nat} {D : List Sm} {x : Sm} {v : Value} {S' : List Nat} (h : LvMem w g u S D) (hi : i < 10) (hx : levelS x = i) (k : Keeps (S i) w w') (hs : Seg w' 25 32 v ((lvl D i).length + 1) (flat (lvl D i) ++ flat [x]) S') (hS : ∀ b ∈ S', b ∈ S i ∨ w.heap.size ≤ b) (hb : Blk w'' g 34 (lvCells (upd u i v)).toArray) (k2 : Keeps [g] w' w'') : LvMem w'' g (upd u i v) (upd S i S') (D ++ [x]) := by
  have hgi : g ∉ S i := blk_apart (h.seg i hi) h.blk (by decide)
  have hb1 := h.blk.keeps k hgi
  refine ⟨hb, fun j hj => ?_, fun j l hj hl hne y hy => ?_⟩
  · rw [lvl_snoc]
    by_cases hji : j = i
    · subst hji
      rw [if_pos hx, upd_eq, upd_eq, flat_append, List.length_append]
      exact hs.keeps k2 (seg_far hs hb1 (by decide))
    · rw [if_neg (by rw [hx]; exact fun e => hji e.symm), upd_ne _ _ hji, upd_ne _ _ hji]
      have h1 := (h.seg j hj).keeps k (h.apart j i hj hi hji)
      exact h1.keeps k2 (seg_far h1 hb1 (by decide))
  · by_cases hji : j = i
    · subst hji
      rw [upd_eq] at hy
      rw [upd_ne _ _ (fun e => hne e.symm)]
      rcases hS y hy with h1 | h1
      · exact h.apart j l hj hl hne y h1
      · intro hm; have := (h.seg l hl).lt y hm; omega
    · rw [upd_ne _ _ hji] at hy
      by_cases hli : l = i
      · subst hli
        rw [upd_eq]
        intro hm
        rcases hS y hm with h1 | h1
        · exact h.apart j l hj hl hne y hy h1
        · have := (h.seg j hj).lt y hy; omega
      · rw [upd_ne _ _ hli]
        exact h.apart j l hj hl hne y hy
theorem buildSt1 (n : Int) (w : World) : (Instr.build StT #[(0, .int .u64 n)]).run Tryd.prog w = .ok (.agg #[.int .u64 n, nilS]) w := by
  have hz : (zeroValue StT).run Tryd.prog w = .ok (.agg #[.int .u64 0, nilS]) w := by kernel_rfl
  have hu := run_underlying Tryd.underlying31 w
  have h1 := Tryd.sizeOf22 w
  simp only [Instr.build, Sem.run_bind, hz, Result.andThen_ok, hu]
  simp [h1, Instr.fill, Value.cells]
section
variable {w0 : World} {Γ : Ctx} {o : Oper} {x : Operand} {g : Nat}
theorem cStP (ho : o.op = .fieldAddr StT x 1) (hx : OpT Γ x (Ty.ex (.pointer (some ⟨g, 0, none⟩)))) : OpOk Tryd.prog w0 Γ o (Ty.ex (.pointer (some ⟨g, 1, none⟩))) :=
  .val fun a w hb hs => by
    obtain ⟨v, h1, h2⟩ := hs x _ (by simp [ho, Op.operands]) hx
    have h2 : v = .pointer (some ⟨g, 0, none⟩) := h2
    have hr := run_fieldAt (P := Tryd.prog) (i := 1) Tryd.underlying31 rfl sizeTLA g 0 w
    refine ⟨_, rfl, ?_⟩
    unfold execOp
    simp [ho, h1, h2, hr]
theorem st_at {w : World} {u s : Value} (h : Blk w g StT #[u, s]) : (Ty.at_ StT [s]).p w (.pointer (some ⟨g, 1, none⟩)) := ⟨g, 1, _, (0, 0), rfl, h, fun j v hj => by
  cases j with
  | zero => simpa using hj
  | succ j => simp at hj⟩
end
theorem infoTab : (Tryd.prog.info? 38).map (fun i => (i.zero, i.size, i.bytes)) = some (some (.agg zeroT), 2, 32) := infoT46
theorem flatT_one1 {w : World} {e : TypeId} {n : Nat} {xs : List Value} {s : Value} (h : SlP w e s n xs) (sd : Nat) : ∀ v ∈ flatT sd [s], v.oneCell' = true := by
  obtain ⟨A, c, rfl, _⟩ := h
  intro v hv
  simp [flatT] at hv
  rcases hv with rfl | rfl <;> rfl
/-- These as a type. -/
def Ty.slc (e : TypeId) (ss : List Value) (Ls : List (List Cl)) : Ty := ⟨fun w _ => Slc w e ss Ls, fun t => t == e, fun h k hA => h.st k hA⟩
theorem seg_off {w : World} {e : TypeId} {sz n : Nat} {v : Value} {xs : List Value} {S G : List Nat} {f : TypeId → Bool} (h : Seg w e sz v n xs S) (hA : Apart w G f) (hf : f e = true) : ∀ y ∈ S, y ∉ G := fun y hy hm => by
  rcases h.2 with ⟨_, _, rfl⟩ | ⟨g, off, cap, cs, _, rfl, hb, _⟩
  · cases hy
  · simp only [List.mem_singleton] at hy
    subst hy
    obtain ⟨cs', t, fr, h3, h4⟩ := hA y hm hb.lt
    have hb := hb
    unfold Blk at hb
    rw [hb] at h3
    simp only [Option.some.injEq, Obj.cells.injEq] at h3
    rw [← h3.2.1, hf] at h4
    cases h4
/-- As Slc, each of them one's own, none of them another's. -/
def Slw (lo : Nat) (w : World) (e : TypeId) (ss : List Value) (Ls : List (List Cl)) (S : Nat → List Nat) : Prop := ss.length = Ls.length ∧ (∀ k, k < Ls.length → Seg w e 65 (ss.getD k nilS) (Ls.getD k []).length (flatC (Ls.getD k [])) (S k) ∧ ∀ y ∈ S k, lo ≤ y) ∧ ∀ j k, j < k → k < Ls.length → ∀ y ∈ S j, y ∉ S k
theorem Slw.nil (lo : Nat) (w : World) (e : TypeId) : Slw lo w e [] [] fun _ => [] := ⟨rfl, fun k h => by simp at h, fun _ k _ h => by simp at h⟩
theorem Slw.slc {lo : Nat} {w : World} {e : TypeId} {ss : List Value} {Ls : List (List Cl)} {S : Nat → List Nat} (h : Slw lo w e ss Ls S) : Slc w e ss Ls := ⟨h.1, fun k hk => (h.2.1 k hk).1.sl⟩
theorem Slw.keeps {lo : Nat} {w w' : World} {e : TypeId} {ss : List Value} {Ls : List (List Cl)} {S : Nat → List Nat} {G : List Nat} (h : Slw lo w e ss Ls S) (k : Keeps G w w') (hG : ∀ j, j < Ls.length → ∀ y ∈ S j, y ∉ G) : Slw lo w' e ss Ls S := ⟨h.1, fun j hj => ⟨(h.2.1 j hj).1.keeps k (hG j hj), (h.2.1 j hj).2⟩, h.2.2⟩
theorem Slw.below {lo : Nat} {w w' : World} {e : TypeId} {ss : List Value} {Ls : List (List Cl)} {S : Nat → List Nat} (h : Slw lo w e ss Ls S) (hB : Below w.heap.size w w') : Slw lo w' e ss Ls S := ⟨h.1, fun j hj => ⟨(h.2.1 j hj).1.below hB, (h.2.1 j hj).2⟩, h.2.2⟩
theorem Slw.far {lo : Nat} {w w' : World} {e t : TypeId} {g : Nat} {cs : Array Value} {ss : List Value} {Ls : List (List Cl)} {S : Nat → List Nat} (h : Slw lo w e ss Ls S) (k : Keeps [g] w w') (hb : Blk w g t cs) (hne : (t == e) = false) : Slw lo w' e ss Ls S := h.keeps k fun j hj => seg_far (h.2.1 j hj).1 hb hne
theorem Slw.keepSeg {lo : Nat} {w w' : World} {e t : TypeId} {sz n : Nat} {v : Value} {xs : List Value} {G : List Nat} {ss : List Value} {Ls : List (List Cl)} {S : Nat → List Nat} (h : Slw lo w e ss Ls S) (k : Keeps G w w') (hs : Seg w t sz v n xs G) (hne : (t == e) = false) : Slw lo w' e ss Ls S := h.keeps k fun j hj y hy hm => by
  rcases hs.2 with ⟨_, _, rfl⟩ | ⟨g, off, cap, cs, _, rfl, hb, _⟩
  · cases hm
  · exact seg_far (h.2.1 j hj).1 hb hne y hy hm
theorem seg_keepSeg {w w' : World} {e t : TypeId} {sz n sz2 n2 : Nat} {v v2 : Value} {xs xs2 : List Value} {S G : List Nat} (h : Seg w e sz v n xs S) (k : Keeps G w w') (hs : Seg w t sz2 v2 n2 xs2 G) (hne : (t == e) = false) : Seg w' e sz v n xs S := h.keeps k fun y hy hm => by
  rcases hs.2 with ⟨_, _, rfl⟩ | ⟨g, off, cap, cs, _, rfl, hb, _⟩
  · cases hm
  · exact seg_far h hb hne y hy hm
theorem Slw.snoc {lo : Nat} {w : World} {e : TypeId} {ss : List Value} {Ls : List (List Cl)} {S : Nat → List Nat} (h : Slw lo w e ss Ls S) {s : Value} {L : List Cl} {S1 : List Nat} (hs : Seg w e 65 s L.length (flatC L) S1) (h1 : ∀ y ∈ S1, lo ≤ y) (hap : ∀ j, j < Ls.length → ∀ y ∈ S j, y ∉ S1) : Slw lo w e (ss ++ [s]) (Ls ++ [L]) (upd S Ls.length S1) := by
  refine ⟨by rw [List.length_append, List.length_append, h.1]; rfl, fun k hk => ?_, fun j k hjk hk => ?_⟩
  · rw [List.length_append, List.length_singleton] at hk
    by_cases hl : k < Ls.length
    · rw [show (ss ++ [s]).getD k nilS = ss.getD k nilS by simp [List.getD, List.getElem?_append_left (h.1 ▸ hl)], show (Ls ++ [L]).getD k [] = Ls.getD k [] by simp [List.getD, List.getElem?_append_left hl], upd_ne _ _ (by omega)]
      exact h.2.1 k hl
    · have hk : k = Ls.length := by omega
      have e1 : (ss ++ [s]).getD k nilS = s := by rw [hk, ← h.1]; simp [List.getD]
      have e2 : (Ls ++ [L]).getD k [] = L := by rw [hk]; simp [List.getD]
      rw [e1, e2, hk, upd_eq]
      exact ⟨hs, h1⟩
  · rw [List.length_append, List.length_singleton] at hk
    rw [upd_ne _ _ (show j ≠ Ls.length by omega)]
    by_cases hl : k < Ls.length
    · rw [upd_ne _ _ (by omega)]
      exact h.2.2 j k hjk hl
    · have hk : k = Ls.length := by omega
      rw [hk, upd_eq]
      exact hap j (by omega)
/-- A strata, all of it one's own. -/
def Ty.straO (lo : Nat) (T e : TypeId) (sd : Nat) (Ls : List (List Cl)) : Ty := ⟨fun w v => ∃ s ss S So, v = .agg #[.int .u64 (sd : Int), s] ∧ Slw lo w e ss Ls S ∧ Seg w T 2 s Ls.length (flatT sd ss) So ∧ ∀ y ∈ So, lo ≤ y, fun t => t == e || t == T, fun {w w' v G} ⟨s, ss, S, So, h1, h2, h3, h4⟩ k hA => ⟨s, ss, S, So, h1, h2.keeps k (fun j hj => seg_off (h2.2.1 j hj).1 hA (by simp)), h3.keeps k (seg_off h3 hA (by simp)), h4⟩⟩
theorem straO_stra {lo : Nat} {T e : TypeId} {sd : Nat} {Ls : List (List Cl)} : ∀ w v, (Ty.straO lo T e sd Ls).p w v → (Ty.stra T e sd Ls).p w v := fun _ _ ⟨s, ss, _, _, h1, h2, h3, _⟩ => ⟨s, h1, ss, h2.slc, h3.sl⟩
theorem take_range {α : Type} (f : Nat → α) : ∀ j, (List.range (j + 1)).map f = (List.range j).map f ++ [f j] := fun j => by rw [List.range_succ, List.map_append]; rfl
theorem lvl_take_snoc (X : List Sm) {k : Nat} (h : k < X.length) : X.take (k + 1) = X.take k ++ [X.getD k default] := by
  rw [List.take_succ_eq_append_getElem h]
  simp [List.getD, List.getElem?_eq_getElem h]

set_option maxRecDepth 100000 in
set_option maxHeartbeats 4000000 in
theorem stofO_any (lo : Nat) (seed : Nat) (D : List Sm) (hD : D.length ≤ 1000000) (hsd : seed < 18446744073709551616) (w : World) (hlo : lo ≤ w.heap.size) (v u : Value) (hv : v = .int .u64 (seed : Int)) (hu : (Ty.sums 25 D).p w u) (hT : TabOk w) : Ret Tryd.prog 9 #[v, u] w (Ty.straO lo 38 27 seed (stL seed D)) := by
  subst hv
  have hO := of_ty D hD
  have hXl := setL_len D
  have eL : stL seed D = (List.range 10).map fun i => ofL seed 24 (lvl (setL D) i) := rfl
  rw [eL]
  clear eL
  generalize setL D = X at *
  have heL : Enters Tryd.prog 22 := fun args w => by kernel_rfl
  refine enter_ty 57 [Ty.ex (.int .u64 (seed : Int)), Ty.ex u] Tryd.func9 rfl (by kernel_rfl) ⟨rfl, rfl, trivial⟩ fun a hF => ?_
  have hB := Below.refl w.heap.size w
  let TU := Ty.sums 25 D
  repeat with_reducible first | refine wp_seq ?_ | refine nThen ?_ | refine nBlk ?_ | refine wp_skip ?_ | refine wp_block ?_ | refine wp_exit ?_ | refine xThen ?_ | refine xHere ?_ | refine wp_ret ?_
  refine' reg_all hF ?_ mixed (by kernel_rfl) ?_
  rotate_left
  · repeat (first
        | exact Line.nil
        | (refine' Line.cons rfl (.new rfl rfl (run_alloc_i infoStA) rfl) ?_; rotate_left)
        | ((refine' Line.cons rfl (.run rfl rfl ?_) ?_)
           any_goals (first | exact cMove rfl rfl | exact cAssign rfl rfl | exact cLss rfl rfl rfl)
           rotate_left))
  intro a w1 hF hb hN
  have hBs := hB.size
  replace hB := hB.trans (hb.mono hB.size)
  dsimp only [ext, Option.getD] at hF
  repeat with_reducible first | refine wp_seq ?_ | refine nThen ?_ | refine nBlk ?_ | refine wp_skip ?_ | refine wp_block ?_ | refine wp_exit ?_ | refine xThen ?_ | refine xHere ?_ | refine wp_ret ?_
  obtain ⟨z, ⟨g4, rfl, hg4, hb4⟩, hF⟩ := hF.open (s := 4) rfl
  have hg4 : w.heap.size ≤ g4 := hg4
  have hw1 := hB.size
  refine' reg_all hF ?_ mixed (by kernel_rfl) ?_
  rotate_left
  · repeat (first
        | exact Line.nil
        | ((refine' Line.cons rfl (.run rfl rfl ?_) ?_)
           any_goals (first | exact cMove rfl rfl | exact cAssign rfl rfl | exact cMakeLv rfl | exact cLss rfl rfl rfl)
           rotate_left))
  intro a w2 hF hb hN
  have hBs := hB.size
  replace hB := hB.trans (hb.mono hB.size)
  dsimp only [ext, Option.getD] at hF
  repeat with_reducible first | refine wp_seq ?_ | refine nThen ?_ | refine nBlk ?_ | refine wp_skip ?_ | refine wp_block ?_ | refine wp_exit ?_ | refine xThen ?_ | refine xHere ?_ | refine wp_ret ?_
  replace hb4 := hb4.below hb
  obtain ⟨z, ⟨gl, rfl, hgl, hbl⟩, hF⟩ := hF.open (s := 5) rfl
  have hgl : w.heap.size ≤ gl := Nat.le_trans hw1 hgl
  have hw2 := hB.size
  refine' reg_all hF ?_ mixed (by kernel_rfl) ?_
  rotate_left
  · repeat (first
        | exact Line.nil
        | ((refine' Line.cons rfl (.run rfl rfl ?_) ?_)
           any_goals (first | exact cMove rfl rfl | exact cAssign rfl rfl | exact cCallS1 rfl (.l rfl (TU.below hu hB)) hO | exact cLen rfl rfl (Ty.seg_isSl _ _ _ _ _) Tryd.underlying34 | exact cLss rfl rfl rfl)
           rotate_left))
  intro a w3 hF hb hN
  have hBs := hB.size
  replace hB := hB.trans (hb.mono hB.size)
  dsimp only [ext, Option.getD] at hF
  repeat with_reducible first | refine wp_seq ?_ | refine nThen ?_ | refine nBlk ?_ | refine wp_skip ?_ | refine wp_block ?_ | refine wp_exit ?_ | refine xThen ?_ | refine xHere ?_ | refine wp_ret ?_
  replace hb4 := hb4.below hb
  have hL := (LvMem.nil hbl).below hb
  obtain ⟨vx, ⟨Sx, hvx, _⟩, hF⟩ := hF.open (s := 16) rfl
  refine wp_mono (Q := fun e a wr => e = .exit 0 ∧ ∃ (uv : Nat → Value) (S : Nat → List Nat), Fr 57 [(0, Ty.ex (.int .u64 (seed : Int))), (4, Ty.ex (.pointer (some ⟨g4, 0, none⟩))), (5, Ty.ex (.slice (some ⟨gl, 0, none⟩) 10 10))] a wr ∧ Below w.heap.size w wr ∧ Blk wr g4 StT #[.int .u64 0, nilS] ∧ LvMem wr gl uv S X) ?_ ?_
  · refine loop_ty (fun m a wr => ∃ (k : Nat) (uv : Nat → Value) (S : Nat → List Nat), k + m = X.length ∧ Fr 57 [(0, Ty.ex (.int .u64 (seed : Int))), (4, Ty.ex (.pointer (some ⟨g4, 0, none⟩))), (5, Ty.ex (.slice (some ⟨gl, 0, none⟩) 10 10)), (16, Ty.ex vx), (17, Ty.ex (.int .i64 (X.length : Int))), (18, Ty.ex (.int .i64 (k : Int)))] a wr ∧ Below w.heap.size w wr ∧ Blk wr g4 StT #[.int .u64 0, nilS] ∧ LvMem wr gl uv S (X.take k) ∧ (∀ i, i < 10 → ∀ y ∈ S i, w.heap.size ≤ y) ∧ Seg wr 25 32 vx X.length (flat X) Sx ∧ ∀ i, i < 10 → ∀ y ∈ S i, y ∉ Sx) X.length ?_ ?_
    · exact ⟨0, _, _, by omega, hF.keep [0, 4, 5, 16, 17, 18], hB, hb4, hL, (fun _ _ y hy => by cases hy), hvx, fun _ _ y hy => by cases hy⟩
    clear hF hB hb4 hL hvx hbl
    rintro m a wr ⟨k, uv, S, hk, hF, hB, hb4, hL, hS, hvx, hSx⟩
    repeat with_reducible first | refine wp_seq ?_ | refine nThen ?_ | refine nBlk ?_ | refine wp_skip ?_ | refine wp_block ?_ | refine wp_exit ?_ | refine xThen ?_ | refine xHere ?_ | refine wp_ret ?_
    refine' reg_all hF ?_ mixed (by kernel_rfl) ?_
    rotate_left
    · repeat (first
          | exact Line.nil
          | ((refine' Line.cons rfl (.run rfl rfl ?_) ?_)
             any_goals (first | exact cMove rfl rfl | exact cAssign rfl rfl | exact cLss rfl rfl rfl)
             rotate_left))
    intro a w4 hF hb hN
    have hBs := hB.size
    replace hB := hB.trans (hb.mono hB.size)
    dsimp only [ext, Option.getD] at hF
    repeat with_reducible first | refine wp_seq ?_ | refine nThen ?_ | refine nBlk ?_ | refine wp_skip ?_ | refine wp_block ?_ | refine wp_exit ?_ | refine xThen ?_ | refine xHere ?_ | refine wp_ret ?_
    replace hb4 := hb4.below hb
    replace hL := hL.below hb
    replace hvx := hvx.below hb
    refine cond_ty hF rfl (fun hlt => ?_) (fun hge => ?_)
    rotate_left
    · have hge : ¬ k < X.length := by have := of_decide_eq_false hge; omega
      have hkX : k = X.length := by omega
      rw [hkX, List.take_of_length_le (Nat.le_refl _)] at hL
      repeat with_reducible first | refine wp_seq ?_ | refine nThen ?_ | refine nBlk ?_ | refine wp_skip ?_ | refine wp_block ?_ | refine wp_exit ?_ | refine xThen ?_ | refine xHere ?_ | refine wp_ret ?_
      exact ⟨rfl, uv, S, hF.keep [0, 4, 5], hB, hb4, hL⟩
    have hlt : k < X.length := by have := of_decide_eq_true hlt; omega
    have hts := lvl_take_snoc X hlt
    have hlvk := lvl_len (X.take k)
    have htk : (X.take k).length ≤ X.length := by rw [List.length_take]; omega
    have hi10 := level_lt (X.getD k default)
    have hlvr := level_ret (X.getD k default)
    obtain ⟨x, hx⟩ : ∃ x, X.getD k default = x := ⟨_, rfl⟩
    rw [hx] at hts hi10 hlvr
    have hw4 := hB.size
    repeat with_reducible first | refine wp_seq ?_ | refine nThen ?_ | refine nBlk ?_ | refine wp_skip ?_ | refine wp_block ?_ | refine wp_exit ?_ | refine xThen ?_ | refine xHere ?_ | refine wp_ret ?_
    refine' region_ty 3 mixed (by kernel_rfl) hF ?_ ?_
    rotate_left
    · simp only [List.take_succ_cons, List.take_zero]
      repeat (first
          | exact Line.nil
          | (refine' Line.cons rfl (.new rfl rfl (run_alloc_i infoS) rfl) ?_; rotate_left)
          | ((refine' Line.cons rfl (.run rfl rfl ?_) ?_)
             any_goals (first | exact cMove rfl rfl | exact cAssign rfl rfl | exact cIndexSum (k := k) rfl (.l rfl hvx.sl) rfl Tryd.underlying34 sizeS hlt | exact cLoadSum rfl (.t rfl) Tryd.underlying25 sizeS | exact cLss rfl rfl rfl)
             rotate_left))
    intro a w5 hF hb hN
    have hBs := hB.size
    replace hB := hB.trans (hb.mono hB.size)
    simp only [List.take_succ_cons, List.take_zero, List.drop_succ_cons, List.drop_zero] at hF hN ⊢
    dsimp only [ext, Option.getD] at hF
    rw [hx] at hF
    obtain ⟨z, ⟨g7, rfl, hg7, hb7⟩, hF⟩ := hF.open (s := 7) rfl
    have hg7 : w4.heap.size ≤ g7 := hg7
    refine tlStoreV (Δ := [(0, Ty.ex (.int .u64 (seed : Int))), (4, Ty.ex (.pointer (some ⟨g4, 0, none⟩))), (5, Ty.ex (.slice (some ⟨gl, 0, none⟩) 10 10)), (7, Ty.ex (.pointer (some ⟨g7, 0, none⟩))), (16, Ty.ex vx), (17, Ty.ex (.int .i64 (X.length : Int))), (18, Ty.ex (.int .i64 (k : Int)))]) hF rfl rfl rfl rfl (hF.getEx (s := 21) rfl) hb7 (sumSz _) (by show _ = some (u8s _).size; rw [Sm.size]; exact sizeS) (u8s_one _) (hF.keep [0, 4, 5, 7, 16, 17, 18]) rfl ?_
    intro w6 hF hb7' hkx
    refine wpList_nil ?_
    have hB46 : Below w4.heap.size w4 w6 := below_own hb hkx (by intro y hy; simp only [List.mem_singleton] at hy; omega)
    replace hB := below_own hB hkx (by intro y hy; simp only [List.mem_singleton] at hy; omega)
    replace hb4 := hb4.below hB46
    replace hL := hL.below hB46
    replace hvx := hvx.below hB46
    replace hb7 : Blk w6 g7 25 (u8s x.l) := hb7'
    clear hb7' hkx hB46
    have hT6 := hT.below hB
    have h5 := at5 hb7
    repeat with_reducible first | refine wp_seq ?_ | refine nThen ?_ | refine nBlk ?_ | refine wp_skip ?_ | refine wp_block ?_ | refine wp_exit ?_ | refine xThen ?_ | refine xHere ?_ | refine wp_ret ?_
    refine' reg_all hF ?_ mixed (by kernel_rfl) ?_
    rotate_left
    · repeat (first
          | exact Line.nil
          | ((refine' Line.cons rfl (.run rfl rfl ?_) ?_)
             any_goals (first | exact cMove rfl rfl | exact cAssign rfl rfl | exact cLoadSum rfl (.l rfl h5) Tryd.underlying25 sizeS | exact cCallX1 rfl rfl heL (fun W hb => hlvr W (hT6.below hb)) | exact cLss rfl rfl rfl)
             rotate_left))
    intro a w7 hF hb hN
    have hBs := hB.size
    replace hB := hB.trans (hb.mono hB.size)
    dsimp only [ext, Option.getD] at hF
    repeat with_reducible first | refine wp_seq ?_ | refine nThen ?_ | refine nBlk ?_ | refine wp_skip ?_ | refine wp_block ?_ | refine wp_exit ?_ | refine xThen ?_ | refine xHere ?_ | refine wp_ret ?_
    replace hb4 := hb4.below hb
    replace hL := hL.below hb
    replace hvx := hvx.below hb
    replace hb7 := hb7.below hb
    clear h5 hT6 hlvr
    obtain ⟨i, hi⟩ : ∃ i, levelS x = i := ⟨_, rfl⟩
    rw [hi] at hF hi10
    have h5 := at5 hb7
    have hat := hL.at_ hi10
    have hseg := hL.seg i hi10
    have hlvi := hlvk i
    have hw7 := hB.size
    refine' region_ev 9 8 [2, 3, 4, 5, 6, 7, 8] (dp := 32) (fun v' w' => Keeps (S i) w7 w' ∧ ∃ S', Seg w' 25 32 v' ((lvl (X.take k) i).length + 1) (flat (lvl (X.take k) i) ++ flat [x]) S' ∧ ∀ b ∈ S', b ∈ S i ∨ w7.heap.size ≤ b) mixed (by kernel_rfl) rfl hF ?_ ?_
    rotate_left
    · simp only [List.take_succ_cons, List.take_zero]
      refine' LineE.float rfl rfl ?_ ?_
      any_goals (first | exact fMove rfl rfl rfl)
      rotate_left
      refine' LineE.float rfl rfl ?_ ?_
      any_goals (first | exact fMove rfl rfl rfl)
      rotate_left
      refine' LineE.cons rfl rfl rfl (.run rfl rfl ?_) ?_
      any_goals (first | exact cMove rfl rfl)
      rotate_left
      refine' LineE.cons rfl rfl rfl (.run rfl rfl ?_) ?_
      any_goals (first | exact cMove rfl rfl)
      rotate_left
      refine' LineE.cons rfl rfl rfl (.run rfl rfl ?_) ?_
      any_goals (first | exact cIndexEx (k := i) (sz := 1) rfl rfl rfl Tryd.underlying58 sizeSL1 hi10)
      rotate_left
      refine' LineE.cons rfl rfl rfl (.run rfl rfl ?_) ?_
      any_goals (first | exact cLoad1 (u := uv i) rfl (.l rfl hat) (pts_at _ _) Tryd.underlying34 rfl)
      rotate_left
      refine' LineE.cons rfl rfl rfl (.run rfl rfl ?_) ?_
      any_goals (first | exact cLoadSum rfl (.l rfl h5) Tryd.underlying25 sizeS)
      rotate_left
      refine' LineE.cons rfl rfl rfl (.run rfl rfl ?_) ?_
      any_goals (first | exact cBuildSums [x] rfl (parts1v rfl rfl) Tryd.underlying34 infoS rfl)
      rotate_left
      refine' LineE.event rfl rfl rfl ?_ ?_
      any_goals (first | exact evAppend (m := 1) (news := flat [x]) rfl rfl Tryd.underlying34 infoS zero32_size hseg (.t rfl) sl_news (flat_len _) flat_one' (by simp [maxLen]; omega) (by omega))
      rotate_left
      exact LineE.nil
    intro a W hsz hdf v' hv37 ⟨hk7, S', hseg', hS'⟩ hX
    simp only [List.take_succ_cons, List.take_zero, List.drop_succ_cons, List.drop_zero] at hX ⊢
    dsimp only [ext, Option.getD] at hX
    have hF : Fr 57 [(0, Ty.ex (.int .u64 (seed : Int))), (4, Ty.ex (.pointer (some ⟨g4, 0, none⟩))), (5, Ty.ex (.slice (some ⟨gl, 0, none⟩) 10 10)), (16, Ty.ex vx), (17, Ty.ex (.int .i64 (X.length : Int))), (18, Ty.ex (.int .i64 (k : Int))), (24, Ty.ex (.slice (some ⟨gl, 0, none⟩) 10 10)), (25, Ty.ex (.int .i64 (i : Int))), (32, Ty.ex v')] a W := ((((((((((Fr.bare hsz hdf).letter hv37).letter (hX 25 _ rfl)).letter (hX 24 _ rfl)).letter (hX 18 _ rfl)).letter (hX 17 _ rfl)).letter (hX 16 _ rfl)).letter (hX 5 _ rfl)).letter (hX 4 _ rfl)).letter (hX 0 _ rfl))
    have hOS : ∀ y ∈ S', w.heap.size ≤ y := fun y hy => (hS' y hy).elim (hS i hi10 y) fun h => Nat.le_trans hB.size h
    have hBW := below_lo hB (Nat.le_refl _) hk7 (hS i hi10)
    have hvxW := hvx.keeps hk7 (fun y hy hm => hSx i hi10 y hm hy)
    have hb4W := hb4.keeps hk7 (blk_apart hseg hb4 (by decide))
    have hblW := hL.blk.keeps hk7 (blk_apart hseg hL.blk (by decide))
    replace hB := Below.refl W.heap.size W
    refine' tlOp hF rfl rfl rfl ?_ ?_
    rotate_left
    · first | exact cIndexEx (k := i) (sz := 1) rfl rfl rfl Tryd.underlying58 sizeSL1 hi10 | exact cMove rfl rfl | exact cAssign rfl rfl | exact cLss rfl rfl rfl
    intro a w30 hF hb
    have hBs := hB.size
    replace hB := hB.trans (hb.mono hB.size)
    try (refine wpList_nil ?_)
    repeat with_reducible first | refine wp_seq ?_ | refine nThen ?_ | refine nBlk ?_ | refine wp_skip ?_ | refine wp_block ?_ | refine wp_exit ?_ | refine xThen ?_ | refine xHere ?_ | refine wp_ret ?_
    have hk30 := hk7.trans (Keeps.of_below (S := S i) (hb.mono (Nat.le_refl _)))
    have hseg30 := hseg'.below hb
    have hvx30 := hvxW.below hb
    have hb430 := hb4W.below hb
    have hbl30 := hblW.below hb
    have hB30 := hBW.trans (hb.mono hBW.size)
    have hc1 := sl_cells (seg_isA hseg30)
    have ho1 := sl_one1 (seg_isA hseg30)
    refine tlStoreF (k := 0 + i * 1) (v := v') (Δ := [(0, Ty.ex (.int .u64 (seed : Int))), (4, Ty.ex (.pointer (some ⟨g4, 0, none⟩))), (5, Ty.ex (.slice (some ⟨gl, 0, none⟩) 10 10)), (16, Ty.ex vx), (17, Ty.ex (.int .i64 (X.length : Int))), (18, Ty.ex (.int .i64 (k : Int)))]) hF rfl rfl rfl rfl (hF.getEx (s := 32) rfl) hbl30 (by rw [hc1]; simp [lvCells]; omega) (by rw [hc1]; exact sizeSL1) ho1 (hF.keep [0, 4, 5, 16, 17, 18]) rfl ?_
    intro w31 hF hbl31 hk31
    refine wpList_nil ?_
    rw [show splice (lvCells uv).toArray (0 + i * 1) v'.cells.toList = (lvCells (upd uv i v')).toArray by rw [hc1, show 0 + i * 1 = i by omega]; exact lvCells_set uv hi10 v'] at hbl31
    have hM := hL.next hi10 hi hk30 hseg30 hS' hbl31 hk31
    have hvx31 := hvx30.keeps hk31 (seg_far hvx30 hbl30 (by decide))
    have hb431 := hb430.keeps hk31 (by simpa using hb430.ne hbl30 (by decide))
    replace hB := below_own hB30 hk31 (by intro y hy; simp only [List.mem_singleton] at hy; omega)
    repeat with_reducible first | refine wp_seq ?_ | refine nThen ?_ | refine nBlk ?_ | refine wp_skip ?_ | refine wp_block ?_ | refine wp_exit ?_ | refine xThen ?_ | refine xHere ?_ | refine wp_ret ?_
    refine' reg_all hF ?_ mixed (by kernel_rfl) ?_
    rotate_left
    · repeat (first
          | exact Line.nil
          | ((refine' Line.cons rfl (.run rfl rfl ?_) ?_)
             any_goals (first | exact cMove rfl rfl | exact cAssign rfl rfl | exact cAdd (r := ((k + 1 : Nat) : Int)) rfl rfl rfl (by omega) | exact cLss rfl rfl rfl)
             rotate_left))
    intro a w32 hF hb hN
    have hBs := hB.size
    replace hB := hB.trans (hb.mono hB.size)
    dsimp only [ext, Option.getD] at hF
    repeat with_reducible first | refine wp_seq ?_ | refine nThen ?_ | refine nBlk ?_ | refine wp_skip ?_ | refine wp_block ?_ | refine wp_exit ?_ | refine xThen ?_ | refine xHere ?_ | refine wp_ret ?_
    refine ⟨m - 1, by omega, k + 1, _, _, by omega, hF.keep [0, 4, 5, 16, 17, 18], hB, hb431.below hb, by rw [hts]; exact hM.below hb, fun j hj y hy => ?_, hvx31.below hb, fun j hj y hy => ?_⟩
    · by_cases hji : j = i
      · subst hji
        rw [upd_eq] at hy
        exact hOS y hy
      · rw [upd_ne _ _ hji] at hy
        exact hS j hj y hy
    · by_cases hji : j = i
      · subst hji
        rw [upd_eq] at hy
        rcases hS' y hy with h | h
        · exact hSx j hj y h
        · intro hm; have := hvx.lt y hm; omega
      · rw [upd_ne _ _ hji] at hy
        exact hSx j hj y hy
  clear hF hB hb4 hL hvx hbl
  rintro e a w10 ⟨rfl, uv, S, hF, hB0, hb4, hL⟩
  have hB := Below.refl w10.heap.size w10
  have hw10 := hB0.size
  repeat with_reducible first | refine wp_seq ?_ | refine nThen ?_ | refine nBlk ?_ | refine wp_skip ?_ | refine wp_block ?_ | refine wp_exit ?_ | refine xThen ?_ | refine xHere ?_ | refine wp_ret ?_
  refine wp_region_lit ?_
  refine' tlOp hF rfl rfl rfl ?_ ?_
  rotate_left
  · first | exact cMove rfl rfl | exact cAssign rfl rfl | exact cLss rfl rfl rfl
  intro a w11 hF hb
  have hBs := hB.size
  replace hB := hB.trans (hb.mono hB.size)
  try (refine wpList_nil ?_)
  repeat with_reducible first | refine wp_seq ?_ | refine nThen ?_ | refine nBlk ?_ | refine wp_skip ?_ | refine wp_block ?_ | refine wp_exit ?_ | refine xThen ?_ | refine xHere ?_ | refine wp_ret ?_
  refine' tlOp hF rfl rfl rfl ?_ ?_
  rotate_left
  · first | exact cBuildI rfl rfl (fun w => buildSt1 (seed : Int) w) | exact cMove rfl rfl | exact cAssign rfl rfl | exact cLss rfl rfl rfl
  intro a w12 hF hb
  have hBs := hB.size
  replace hB := hB.trans (hb.mono hB.size)
  try (refine wpList_nil ?_)
  repeat with_reducible first | refine wp_seq ?_ | refine nThen ?_ | refine nBlk ?_ | refine wp_skip ?_ | refine wp_block ?_ | refine wp_exit ?_ | refine xThen ?_ | refine xHere ?_ | refine wp_ret ?_
  have hw12 := hB.size
  refine' tlOp hF rfl rfl rfl ?_ ?_
  rotate_left
  · first | exact cAllocN rfl (run_alloc_i infoStA) | exact cMove rfl rfl | exact cAssign rfl rfl | exact cLss rfl rfl rfl
  intro a w13 hF hb
  have hBs := hB.size
  replace hB := hB.trans (hb.mono hB.size)
  try (refine wpList_nil ?_)
  repeat with_reducible first | refine wp_seq ?_ | refine nThen ?_ | refine nBlk ?_ | refine wp_skip ?_ | refine wp_block ?_ | refine wp_exit ?_ | refine xThen ?_ | refine xHere ?_ | refine wp_ret ?_
  obtain ⟨z, ⟨g9, rfl, hg9, hb9⟩, hF⟩ := hF.open (s := 9) rfl
  have hg9 : w12.heap.size ≤ g9 := hg9
  refine tlStoreV (Δ := [(0, Ty.ex (.int .u64 (seed : Int))), (4, Ty.ex (.pointer (some ⟨g4, 0, none⟩))), (5, Ty.ex (.slice (some ⟨gl, 0, none⟩) 10 10)), (9, Ty.ex (.pointer (some ⟨g9, 0, none⟩)))]) hF rfl rfl rfl rfl (hF.getEx (s := 36) rfl) hb9 rfl sizeStA (tabCells seed _ _ _) (hF.keep [0, 4, 5, 9]) rfl ?_
  intro w14 hF hb9' hkx
  refine wpList_nil ?_
  replace hB := below_own hB hkx (by intro y hy; simp only [List.mem_singleton] at hy; omega)
  replace hb9 : Blk w14 g9 StT #[.int .u64 (seed : Int), nilS] := hb9'
  clear hb9' hkx
  repeat with_reducible first | refine wp_seq ?_ | refine nThen ?_ | refine nBlk ?_ | refine wp_skip ?_ | refine wp_block ?_ | refine wp_exit ?_ | refine xThen ?_ | refine xHere ?_ | refine wp_ret ?_
  refine' reg_all hF ?_ mixed (by kernel_rfl) ?_
  rotate_left
  · repeat (first
        | exact Line.nil
        | ((refine' Line.cons rfl (.run rfl rfl ?_) ?_)
           any_goals (first | exact cMove rfl rfl | exact cAssign rfl rfl | exact cLenEx rfl rfl Tryd.underlying58 | exact cLss rfl rfl rfl)
           rotate_left))
  intro a w15 hF hb hN
  have hBs := hB.size
  replace hB := hB.trans (hb.mono hB.size)
  dsimp only [ext, Option.getD] at hF
  repeat with_reducible first | refine wp_seq ?_ | refine nThen ?_ | refine nBlk ?_ | refine wp_skip ?_ | refine wp_block ?_ | refine wp_exit ?_ | refine xThen ?_ | refine xHere ?_ | refine wp_ret ?_
  replace hb9 := hb9.below hb
  have hg9w : w10.heap.size ≤ g9 := by omega
  have hg49 : g4 < w10.heap.size := hb4.lt
  let f : Nat → List Cl := fun i => ofL seed 24 (lvl X i)
  refine loop_ty (fun m a wr => ∃ (j : Nat) (u9 : Value) (S9 : List Nat) (ss : List Value), j + m = 10 ∧ Fr 57 [(0, Ty.ex (.int .u64 (seed : Int))), (4, Ty.ex (.pointer (some ⟨g4, 0, none⟩))), (9, Ty.ex (.pointer (some ⟨g9, 0, none⟩))), (37, Ty.ex (.slice (some ⟨gl, 0, none⟩) 10 10)), (38, Ty.ex (.int .i64 10)), (39, Ty.ex (.int .i64 (j : Int)))] a wr ∧ Below w10.heap.size w10 wr ∧ Blk wr g9 StT #[.int .u64 (seed : Int), u9] ∧ Seg wr 38 2 u9 j (flatT seed ss) S9 ∧ (∃ S, Slw lo wr 27 ss ((List.range j).map f) S) ∧ ∀ y ∈ S9, w10.heap.size ≤ y) 10 ?_ ?_
  · exact ⟨0, nilS, [], [], rfl, hF.keep [0, 4, 9, 37, 38, 39], hB, hb9, Seg.nil _ _ _, ⟨_, Slw.nil _ _ _⟩, fun y hy => by cases hy⟩
  clear hF hB hb9
  rintro m a wr ⟨j, u9, S9, ss, hj, hF, hBr, hb9, hseg9, ⟨S, hss⟩, hS9⟩
  have hB := Below.refl wr.heap.size wr
  have hLr := hL.below hBr
  repeat with_reducible first | refine wp_seq ?_ | refine nThen ?_ | refine nBlk ?_ | refine wp_skip ?_ | refine wp_block ?_ | refine wp_exit ?_ | refine xThen ?_ | refine xHere ?_ | refine wp_ret ?_
  refine' reg_all hF ?_ mixed (by kernel_rfl) ?_
  rotate_left
  · repeat (first
        | exact Line.nil
        | ((refine' Line.cons rfl (.run rfl rfl ?_) ?_)
           any_goals (first | exact cMove rfl rfl | exact cAssign rfl rfl | exact cLss rfl rfl rfl)
           rotate_left))
  intro a w20 hF hb hN
  have hBs := hB.size
  replace hB := hB.trans (hb.mono hB.size)
  dsimp only [ext, Option.getD] at hF
  repeat with_reducible first | refine wp_seq ?_ | refine nThen ?_ | refine nBlk ?_ | refine wp_skip ?_ | refine wp_block ?_ | refine wp_exit ?_ | refine xThen ?_ | refine xHere ?_ | refine wp_ret ?_
  refine cond_ty hF rfl (fun hlt => ?_) (fun hge => ?_)
  rotate_left
  · have hge : ¬ j < 10 := by have := of_decide_eq_false hge; omega
    obtain hj10 : j = 10 := by omega
    rw [hj10] at hss hseg9
    replace hb9 := hb9.below hb
    replace hseg9 := hseg9.below hb
    replace hss := hss.below hb
    have hb420 := (hb4.below hBr).below hb
    have hat9 : (Ty.at_ StT [.int .u64 (seed : Int), u9]).p w20 (.pointer (some ⟨g9, 0, none⟩)) := ⟨g9, 0, _, (0, 0), rfl, hb9, fun j u h => by simpa using h⟩
    replace hB := Below.refl w20.heap.size w20
    have hB20 := hB0.trans ((hBr.trans (hb.mono hBr.size)).mono hw10)
    repeat with_reducible first | refine wp_seq ?_ | refine nThen ?_ | refine nBlk ?_ | refine wp_skip ?_ | refine wp_block ?_ | refine wp_exit ?_ | refine xThen ?_ | refine xHere ?_ | refine wp_ret ?_
    refine wp_region_lit ?_
    refine' tlOp hF rfl rfl rfl ?_ ?_
    rotate_left
    · first | exact cLoadAll (cs := #[.int .u64 (seed : Int), u9]) rfl (.l rfl hat9) Tryd.underlying31 rfl sizeStA | exact cMove rfl rfl | exact cAssign rfl rfl | exact cLss rfl rfl rfl
    intro a w21 hF hb
    have hBs := hB.size
    replace hB := hB.trans (hb.mono hB.size)
    try (refine wpList_nil ?_)
    repeat with_reducible first | refine wp_seq ?_ | refine nThen ?_ | refine nBlk ?_ | refine wp_skip ?_ | refine wp_block ?_ | refine wp_exit ?_ | refine xThen ?_ | refine xHere ?_ | refine wp_ret ?_
    refine tlStoreV (Δ := [(4, Ty.ex (.pointer (some ⟨g4, 0, none⟩)))]) hF rfl rfl rfl rfl (hF.getEx (s := 56) rfl) (hb420.below hb) rfl sizeStA (sl_one (hseg9.below hb).sl _) (hF.keep [4]) rfl ?_
    intro w22 hF hb4' hkx
    refine wpList_nil ?_
    have hs22 := (hss.below hb).far hkx (hb420.below hb) (by decide)
    have hg22 := (hseg9.below hb).keeps hkx (seg_far (hseg9.below hb) (hb420.below hb) (by decide))
    have hB22 := below_own (hB20.trans (hb.mono hB20.size)) hkx (by intro y hy; simp only [List.mem_singleton] at hy; omega)
    repeat with_reducible first | refine wp_seq ?_ | refine nThen ?_ | refine nBlk ?_ | refine wp_skip ?_ | refine wp_block ?_ | refine wp_exit ?_ | refine xThen ?_ | refine xHere ?_ | refine wp_ret ?_
    refine retCell hF rfl rfl hb4' Tryd.underlying31 rfl sizeStA ?_
    exact ⟨_, rfl, ⟨u9, ss, S, S9, rfl, hs22, by rw [List.length_map, List.length_range]; exact hg22, fun y hy => by have := hS9 y hy; omega⟩, hB22⟩
  have hlt : j < 10 := by have := of_decide_eq_true hlt; omega
  have hat := (hLr.below hb).at_ hlt
  let TS := Ty.sums 25 (lvl X j)
  have hsu : TS.p wr (uv j) := (hLr.seg j hlt).sl
  have o1 := tof_ty seed 24 (lvl X j) (by have := lvl_len X j; omega) hsd
  rw [newE_good g24, newS_good g24] at o1
  repeat with_reducible first | refine wp_seq ?_ | refine nThen ?_ | refine nBlk ?_ | refine wp_skip ?_ | refine wp_block ?_ | refine wp_exit ?_ | refine xThen ?_ | refine xHere ?_ | refine wp_ret ?_
  refine' reg_all hF ?_ mixed (by kernel_rfl) ?_
  rotate_left
  · repeat (first
        | exact Line.nil
        | ((refine' Line.cons rfl (.run rfl rfl ?_) ?_)
           any_goals (first | exact cMove rfl rfl | exact cAssign rfl rfl | exact cIndexEx (k := j) (sz := 1) rfl rfl rfl Tryd.underlying58 sizeSL1 hlt | exact cLoad1 (u := uv j) rfl (.l rfl hat) (pts_at _ _) Tryd.underlying34 rfl | exact cLss rfl rfl rfl)
           rotate_left))
  intro a w21 hF hb hN
  have hBs := hB.size
  replace hB := hB.trans (hb.mono hB.size)
  dsimp only [ext, Option.getD] at hF
  repeat with_reducible first | refine wp_seq ?_ | refine nThen ?_ | refine nBlk ?_ | refine wp_skip ?_ | refine wp_block ?_ | refine wp_exit ?_ | refine xThen ?_ | refine xHere ?_ | refine wp_ret ?_
  refine wp_region_lit ?_
  refine' tlOp hF rfl rfl rfl ?_ ?_
  rotate_left
  · first | exact cMove rfl rfl | exact cCallR3 rfl (.t rfl) (.t rfl) (.l rfl (TS.below hsu hB)) o1 (tabE_olds _ _ _ _)
  intro a w22_0 hF hb
  replace hB := hB.trans (hb.mono hB.size)
  have hz_w22_0 := hB.size
  refine' tlOp hF rfl rfl rfl ?_ ?_
  rotate_left
  · first | exact cMove rfl rfl | exact cCallR3 rfl (.t rfl) (.t rfl) (.l rfl (TS.below hsu hB)) o1 (tabE_olds _ _ _ _)
  intro a w22_1 hF hb
  replace hB := hB.trans (hb.mono hB.size)
  have hz_w22_1 := hB.size
  refine' tlOp hF rfl rfl rfl ?_ ?_
  rotate_left
  · first | exact cMove rfl rfl | exact cCallR3 rfl (.t rfl) (.t rfl) (.l rfl (TS.below hsu hB)) o1 (tabE_olds _ _ _ _)
  intro a w22_2 hF hb
  replace hB := hB.trans (hb.mono hB.size)
  have hz_w22_2 := hB.size
  refine' tlOp hF rfl rfl rfl ?_ ?_
  rotate_left
  · first | exact cMove rfl rfl | exact cCallR3 rfl (.t rfl) (.t rfl) (.l rfl (TS.below hsu hB)) o1 (tabE_olds _ _ _ _)
  intro a w22_3 hF hb
  replace hB := hB.trans (hb.mono hB.size)
  have hz_w22_3 := hB.size
  refine' tlOp hF rfl rfl rfl ?_ ?_
  rotate_left
  · exact cExtT rfl rfl
  intro a w22_t hF hb
  replace hB := hB.trans (hb.mono hB.size)
  have hz_w22_t := hB.size
  refine' tlOp hF rfl rfl rfl ?_ ?_
  rotate_left
  · exact cExtE rfl rfl
  intro a w22_e hF hb
  replace hB := hB.trans (hb.mono hB.size)
  have hz_w22_e := hB.size
  have hBa := hB
  refine tlNewTabS2 hF rfl rfl rfl (by decide) rfl (run_alloc_i infoT46) rfl rfl rfl rfl sizeT46 fun a w22_n s hF hb hbT hsT => ?_
  replace hB := hB.trans (hb.mono hB.size)
  refine' tlOp hF rfl rfl rfl ?_ ?_
  rotate_left
  · exact cAssign rfl rfl
  intro a w22 hF hb
  replace hB := hB.trans (hb.mono hB.size)
  have hz_w22 := hB.size
  try (refine wpList_nil ?_)
  repeat with_reducible first | refine wp_seq ?_ | refine nThen ?_ | refine nBlk ?_ | refine wp_skip ?_ | refine wp_block ?_ | refine wp_exit ?_ | refine xThen ?_ | refine xHere ?_ | refine wp_ret ?_
  replace hbT := hbT.below hb
  replace hsT := (Ty.seg _ 27 65 _ _).below hsT hb
  obtain ⟨S12, hs12, hS12⟩ := hsT
  have hat12 : (Ty.at_ 38 [.int .u64 (seed : Int), s]).p w22 (.pointer (some ⟨w22_e.heap.size, 0, none⟩)) := ⟨_, 0, _, (0, 0), rfl, hbT, fun j u h => by simpa using h⟩
  generalize Value.pointer (some ⟨w22_e.heap.size, 0, none⟩) = v12 at hF hat12
  have hap : ∀ i, i < ((List.range j).map f).length → ∀ y ∈ S i, y ∉ S12 := fun i hi y hy hm => by
    have h1 := (hss.2.1 i hi).1.lt y hy
    have h2 := hS12 y hm
    omega
  have hlo12 : ∀ y ∈ S12, lo ≤ y := fun y hy => by
    have h2 := hS12 y hy
    have h3 := hBr.size
    omega
  have hb922 := hb9.below hB
  have hseg22 := hseg9.below hB
  have hss22 := hss.below hB
  have hB22 := hBr.trans (hB.mono hBr.size)
  replace hF := hF.keep [0, 4, 9, 12, 37, 38, 39]
  dsimp only [pick, look] at hF
  replace hB := Below.refl w22.heap.size w22
  have hat9 := st_at hb922
  refine wp_region_lit ?_
  refine' tlOp hF rfl rfl rfl ?_ ?_
  rotate_left
  · first | exact cStP rfl rfl | exact cMove rfl rfl | exact cAssign rfl rfl | exact cLss rfl rfl rfl
  intro a w30 hF hb
  have hBs := hB.size
  replace hB := hB.trans (hb.mono hB.size)
  try (refine wpList_nil ?_)
  repeat with_reducible first | refine wp_seq ?_ | refine nThen ?_ | refine nBlk ?_ | refine wp_skip ?_ | refine wp_block ?_ | refine wp_exit ?_ | refine xThen ?_ | refine xHere ?_ | refine wp_ret ?_
  refine' tlOp hF rfl rfl rfl ?_ ?_
  rotate_left
  · first | exact cLoad1 (u := u9) rfl (.l rfl ((Ty.at_ StT [u9]).below hat9 hB)) (pts_at _ _) Tryd.underlying29 rfl | exact cMove rfl rfl | exact cAssign rfl rfl | exact cLss rfl rfl rfl
  intro a w31 hF hb
  have hBs := hB.size
  replace hB := hB.trans (hb.mono hB.size)
  try (refine wpList_nil ?_)
  repeat with_reducible first | refine wp_seq ?_ | refine nThen ?_ | refine nBlk ?_ | refine wp_skip ?_ | refine wp_block ?_ | refine wp_exit ?_ | refine xThen ?_ | refine xHere ?_ | refine wp_ret ?_
  refine' tlOp hF rfl rfl rfl ?_ ?_
  rotate_left
  · first | exact cLoadT46 rfl (.l rfl ((Ty.at_ 38 _).below hat12 hB)) | exact cMove rfl rfl | exact cAssign rfl rfl | exact cLss rfl rfl rfl
  intro a w32 hF hb
  have hBs := hB.size
  replace hB := hB.trans (hb.mono hB.size)
  try (refine wpList_nil ?_)
  repeat with_reducible first | refine wp_seq ?_ | refine nThen ?_ | refine nBlk ?_ | refine wp_skip ?_ | refine wp_block ?_ | refine wp_exit ?_ | refine xThen ?_ | refine xHere ?_ | refine wp_ret ?_
  refine' tlOp hF rfl rfl rfl ?_ ?_
  rotate_left
  · first | exact cBuildV (vs := [.agg #[.int .u64 (seed : Int), s]]) rfl (parts1v rfl rfl) Tryd.underlying29 infoTab rfl (by intro v hv; simp only [List.mem_singleton] at hv; subst hv; rfl) (by decide) (by simp [maxLen]) | exact cMove rfl rfl | exact cAssign rfl rfl | exact cLss rfl rfl rfl
  intro a w33 hF hb
  have hBs := hB.size
  replace hB := hB.trans (hb.mono hB.size)
  try (refine wpList_nil ?_)
  repeat with_reducible first | refine wp_seq ?_ | refine nThen ?_ | refine nBlk ?_ | refine wp_skip ?_ | refine wp_block ?_ | refine wp_exit ?_ | refine xThen ?_ | refine xHere ?_ | refine wp_ret ?_
  have hseg33 := hseg22.below hB
  have hb933 := hb922.below hB
  have hss33 := hss22.below hB
  have hs33 := hs12.below hB
  have hB33 := hB22.trans (hB.mono hB22.size)
  refine tlAppend (Δ := [(0, Ty.ex (.int .u64 (seed : Int))), (4, Ty.ex (.pointer (some ⟨g4, 0, none⟩))), (9, Ty.ex (.pointer (some ⟨g9, 0, none⟩))), (37, Ty.ex (.slice (some ⟨gl, 0, none⟩) 10 10)), (38, Ty.ex (.int .i64 10)), (39, Ty.ex (.int .i64 (j : Int)))]) (n := j) (m := 1) (news := flatT seed [s]) hF rfl rfl rfl rfl Tryd.underlying29 infoTab rfl rfl hseg33 (.t rfl) sl_news rfl (flatT_one1 hs33.sl seed) (by simp [maxLen]; omega) (by omega) (hF.keep [0, 4, 9, 37, 38, 39]) rfl ?_
  intro a w34 u9' S9' hF hseg34 hk34 hS34
  have hb934 := hb933.keeps hk34 (blk_apart hseg33 hb933 (by decide))
  have hss34 := hss33.keepSeg hk34 hseg33 (by decide)
  have hs34 := seg_keepSeg hs33 hk34 hseg33 (by decide)
  have hS9n : ∀ y ∈ S9', w10.heap.size ≤ y := own_next hB33 hS9 hS34
  have hB34 := below_own hB33 hk34 hS9
  replace hB := Below.refl w34.heap.size w34
  refine' tlOp hF rfl rfl rfl ?_ ?_
  rotate_left
  · first | exact cStP rfl rfl | exact cMove rfl rfl | exact cAssign rfl rfl | exact cLss rfl rfl rfl
  intro a w35 hF hb
  have hBs := hB.size
  replace hB := hB.trans (hb.mono hB.size)
  try (refine wpList_nil ?_)
  repeat with_reducible first | refine wp_seq ?_ | refine nThen ?_ | refine nBlk ?_ | refine wp_skip ?_ | refine wp_block ?_ | refine wp_exit ?_ | refine xThen ?_ | refine xHere ?_ | refine wp_ret ?_
  have hseg35 := hseg34.below hb
  have hb935 := hb934.below hb
  have hc1 := sl_cells (seg_isA hseg35)
  have ho1 := sl_one1 (seg_isA hseg35)
  refine tlStoreF (k := 1) (v := u9') (Δ := [(0, Ty.ex (.int .u64 (seed : Int))), (4, Ty.ex (.pointer (some ⟨g4, 0, none⟩))), (9, Ty.ex (.pointer (some ⟨g9, 0, none⟩))), (37, Ty.ex (.slice (some ⟨gl, 0, none⟩) 10 10)), (38, Ty.ex (.int .i64 10)), (39, Ty.ex (.int .i64 (j : Int)))]) hF rfl rfl rfl rfl (hF.getEx (s := 53) rfl) hb935 (by rw [hc1]; simp) (by rw [hc1]; exact sizeTLA) ho1 (hF.keep [0, 4, 9, 37, 38, 39]) rfl ?_
  intro w36 hF hb36 hk36
  rw [show splice #[.int .u64 (seed : Int), u9] 1 u9'.cells.toList = #[.int .u64 (seed : Int), u9'] by rw [hc1]; rfl] at hb36
  refine wpList_nil ?_
  have hss36 := (hss34.below hb).far hk36 hb935 (by decide)
  have hs36 := (hs34.below hb).keeps hk36 (seg_far (hs34.below hb) hb935 (by decide))
  have hseg36 := hseg35.keeps hk36 (seg_far hseg35 hb935 (by decide))
  replace hB := below_own (hB34.trans (hb.mono hB34.size)) hk36 (by intro y hy; simp only [List.mem_singleton] at hy; omega)
  repeat with_reducible first | refine wp_seq ?_ | refine nThen ?_ | refine nBlk ?_ | refine wp_skip ?_ | refine wp_block ?_ | refine wp_exit ?_ | refine xThen ?_ | refine xHere ?_ | refine wp_ret ?_
  refine' reg_all hF ?_ mixed (by kernel_rfl) ?_
  rotate_left
  · repeat (first
        | exact Line.nil
        | ((refine' Line.cons rfl (.run rfl rfl ?_) ?_)
           any_goals (first | exact cMove rfl rfl | exact cAssign rfl rfl | exact cAdd (r := ((j + 1 : Nat) : Int)) rfl rfl rfl (by omega) | exact cLss rfl rfl rfl)
           rotate_left))
  intro a w37 hF hb hN
  have hBs := hB.size
  replace hB := hB.trans (hb.mono hB.size)
  dsimp only [ext, Option.getD] at hF
  repeat with_reducible first | refine wp_seq ?_ | refine nThen ?_ | refine nBlk ?_ | refine wp_skip ?_ | refine wp_block ?_ | refine wp_exit ?_ | refine xThen ?_ | refine xHere ?_ | refine wp_ret ?_
  refine ⟨m - 1, by omega, j + 1, u9', S9', ss ++ [s], by omega, hF.keep [0, 4, 9, 37, 38, 39], hB, hb36.below hb, ?_, ?_, hS9n⟩
  · rw [flatT_snoc]
    exact hseg36.below hb
  · rw [take_range]
    refine ⟨_, (hss36.snoc hs36 hlo12 hap).below hb⟩
theorem stof_any (seed : Nat) (D : List Sm) (hD : D.length ≤ 1000000) (hsd : seed < 18446744073709551616) (w : World) (v u : Value) (hv : v = .int .u64 (seed : Int)) (hu : (Ty.sums 25 D).p w u) (hT : TabOk w) : Ret Tryd.prog 9 #[v, u] w (Ty.stra 38 27 seed (stL seed D)) := by
  have h := stofO_any 0 seed D hD hsd w (Nat.zero_le _) v u hv hu hT
  unfold Ret at h ⊢
  refine Calls.mono h fun e w' h => ?_
  obtain ⟨z, h1, h2, h3⟩ := h
  exact ⟨z, h1, straO_stra _ _ h2, h3⟩
end Go.Proofs.YtgmeagkolahkoaaDoor

/- Layer 17 by types: strataOf. -/
namespace Go.Proofs.YtgmeagkolahkoaaDoor
open Go.RowKit

/-- A row of one table. -/
def Ty.tab1 (T e : TypeId) (sd : Nat) (L : List Cl) : Ty := ⟨fun w v => ∃ s, SlP w T v 1 [.int .u64 (sd : Int), s] ∧ SlP w e s L.length (flatC L), fun t => t == e || t == T, fun ⟨s, h1, h2⟩ k hA => ⟨s, (Ty.sl T _ _).st h1 k (apart_r hA), (Ty.cls e L).st h2 k (apart_l hA)⟩⟩
theorem cBuildTab1 {P : Program} {w0 : World} {Γ : Ctx} {o : Oper} {t T e : TypeId} {x : Operand} {sd : Nat} {L : List Cl} (ho : o.op = .buildSlice t 1 #[(0, x)]) (hx : Has w0 Γ x (Ty.tab e sd L)) (hu : P.underlying t = some (.slice T)) (hi : (P.info? T).map (fun i => (i.zero, i.size, i.bytes)) = some (some (.agg zeroT), 2, 32)) : OpOk P w0 Γ o (Ty.tab1 T e sd L) :=
  .new fun a w hb hs => by
    obtain ⟨v, h1, s, rfl, h2⟩ := hx.see hs (by simp [ho, Op.operands]) hb
    have hr := run_buildSlice (P := P) 1 [.agg #[.int .u64 (sd : Int), s]] hu hi rfl (by intro v hv; simp only [List.mem_singleton] at hv; subst hv; rfl) (by decide) w
    refine ⟨.slice (some ⟨w.heap.size, 0, none⟩) 1 1, _, ⟨s, ⟨_, 1, rfl, Nat.le_refl _, by simp [maxLen], fun h => (by cases h), fun j u hu => ⟨w.heap.size, 0, _, (0, 0), rfl, heap_alloc_new w _, by rw [Nat.zero_add]; simpa using hu⟩⟩, ?_⟩, ((Keeps.refl [] w).alloc (.cells #[.int .u64 (sd : Int), s] T)).below, ?_⟩
    · exact (Ty.cls e L).below h2 ((Keeps.refl [] w).alloc _).below
    · unfold execOp
      simp only [ho]
      rw [show ((#[(0, x)] : Array (Nat × Operand)).map fun (i, x) => (i, a.eval x)) = (([.agg #[.int .u64 (sd : Int), s]] : List Value).zipIdx.map fun p => (p.2, p.1)).toArray by simp [h1], Sem.run_bind, hr]
      rfl
theorem buildStR1 (n : Int) (w : World) : (Instr.build StTR #[(0, .int .u64 n)]).run Tryd.prog w = .ok (.agg #[.int .u64 n, nilS]) w := by
  have hz : (zeroValue StTR).run Tryd.prog w = .ok (.agg #[.int .u64 0, nilS]) w := by kernel_rfl
  have hu := run_underlying Tryd.underlying45 w
  have h1 := Tryd.sizeOf22 w
  simp only [Instr.build, Sem.run_bind, hz, Result.andThen_ok, hu]
  simp [h1, Instr.fill, Value.cells]
section
variable {w0 : World} {Γ : Ctx} {o : Oper} {x : Operand} {g : Nat}
theorem cStPR (ho : o.op = .fieldAddr StTR x 1) (hx : OpT Γ x (Ty.ex (.pointer (some ⟨g, 0, none⟩)))) : OpOk Tryd.prog w0 Γ o (Ty.ex (.pointer (some ⟨g, 1, none⟩))) :=
  .val fun a w hb hs => by
    obtain ⟨v, h1, h2⟩ := hs x _ (by simp [ho, Op.operands]) hx
    have h2 : v = .pointer (some ⟨g, 0, none⟩) := h2
    have hr := run_fieldAt (P := Tryd.prog) (i := 1) Tryd.underlying45 rfl sizeTLR g 0 w
    refine ⟨_, rfl, ?_⟩
    unfold execOp
    simp [ho, h1, h2, hr]
theorem st_atR {w : World} {u s : Value} (h : Blk w g StTR #[u, s]) : (Ty.at_ StTR [s]).p w (.pointer (some ⟨g, 1, none⟩)) := ⟨g, 1, _, (0, 0), rfl, h, fun j v hj => by
  cases j with
  | zero => simpa using hj
  | succ j => simp at hj⟩
end
theorem takeL_snoc (X : List (List Cl)) {k : Nat} (h : k < X.length) : X.take (k + 1) = X.take k ++ [X.getD k []] := by
  rw [List.take_succ_eq_append_getElem h]
  simp [List.getD, List.getElem?_eq_getElem h]
set_option maxRecDepth 100000 in
set_option maxHeartbeats 2000000 in
theorem strataOf17_ty (sd : Nat) (Ls : List (List Cl)) (hL : Ls.length ≤ 1000000) (hE : ∀ k, k < Ls.length → (Ls.getD k []).length ≤ 1000000) : Fn1 Tryd.prog 13 (Ty.stra 38 27 sd Ls) (Ty.stra 72 114 sd Ls) := by
  refine ⟨fun args w => by kernel_rfl, fun w v ⟨s, hv, hs⟩ => ?_⟩
  subst hv
  let TL := Ty.tabs 38 27 sd Ls
  let TP := Ty.straP StT 38 27 sd Ls
  refine enter_ty 27 [Ty.ex (.agg #[.int .u64 (sd : Int), s])] Tryd.func13 rfl (by kernel_rfl) ⟨rfl, trivial⟩ fun a hF => ?_
  have hB := Below.refl w.heap.size w
  repeat with_reducible first | refine wp_seq ?_ | refine nThen ?_ | refine nBlk ?_ | refine wp_skip ?_ | refine wp_block ?_ | refine wp_exit ?_ | refine xThen ?_ | refine xHere ?_ | refine wp_ret ?_
  refine' reg_all hF ?_ mixed (by kernel_rfl) ?_
  rotate_left
  · repeat (first
        | exact Line.nil
        | (refine' Line.cons rfl (.new rfl rfl (run_alloc_i infoStR) rfl) ?_; rotate_left)
        | ((refine' Line.cons rfl (.run rfl rfl ?_) ?_)
           any_goals (first | exact cMove rfl rfl | exact cAssign rfl rfl | exact cBoxTab rfl rfl | exact cLss rfl rfl rfl)
           rotate_left))
  intro a w1 hF hb hN
  have hBs := hB.size
  replace hB := hB.trans (hb.mono hB.size)
  dsimp only [ext, Option.getD] at hF
  repeat with_reducible first | refine wp_seq ?_ | refine nThen ?_ | refine nBlk ?_ | refine wp_skip ?_ | refine wp_block ?_ | refine wp_exit ?_ | refine xThen ?_ | refine xHere ?_ | refine wp_ret ?_
  obtain ⟨z, ⟨g2, rfl, hg2, hb2⟩, hF⟩ := hF.open (s := 2) rfl
  have hg2 : w.heap.size ≤ g2 := hg2
  obtain ⟨p1, hp1, hF⟩ := hF.open (s := 1) rfl
  have hp1 : TP.p w1 p1 := ⟨s, hp1, TL.below hs hB⟩
  have hB0 := hB
  have hw1 := hB.size
  have hlt2 := hb2.lt
  replace hB := Below.refl w1.heap.size w1
  repeat with_reducible first | refine wp_seq ?_ | refine nThen ?_ | refine nBlk ?_ | refine wp_skip ?_ | refine wp_block ?_ | refine wp_exit ?_ | refine xThen ?_ | refine xHere ?_ | refine wp_ret ?_
  refine' region_ty 4 mixed (by kernel_rfl) hF ?_ ?_
  rotate_left
  · simp only [List.take_succ_cons, List.take_zero]
    repeat (first
        | exact Line.nil
        | (refine' Line.cons rfl (.new rfl rfl (run_alloc_i infoStR) rfl) ?_; rotate_left)
        | ((refine' Line.cons rfl (.run rfl rfl ?_) ?_)
           any_goals (first | exact cMove rfl rfl | exact cAssign rfl rfl | exact cStraSA rfl (.l rfl hp1) | exact cLoadU64 rfl (.t rfl) | exact cBuildC1 rfl rfl (fun w => buildStR1 _ w) | exact cLss rfl rfl rfl)
           rotate_left))
  intro a w2 hF hb hN
  have hBs := hB.size
  replace hB := hB.trans (hb.mono hB.size)
  simp only [List.take_succ_cons, List.take_zero, List.drop_succ_cons, List.drop_zero] at hF hN ⊢
  dsimp only [ext, Option.getD] at hF
  obtain ⟨z, ⟨g3, rfl, hg3, hb3⟩, hF⟩ := hF.open (s := 3) rfl
  have hg3 : w1.heap.size ≤ g3 := hg3
  refine tlStoreV (Δ := [(1, Ty.ex p1), (2, Ty.ex (.pointer (some ⟨g2, 0, none⟩))), (3, Ty.ex (.pointer (some ⟨g3, 0, none⟩)))]) hF rfl rfl rfl rfl (hF.getEx (s := 7) rfl) hb3 rfl sizeStR (tabCells sd _ _ _) (hF.keep [1, 2, 3]) rfl ?_
  intro w3 hF hb3 hkx
  refine wpList_nil ?_
  replace hB := below_own hB hkx (by intro y hy; simp only [List.mem_singleton] at hy; omega)
  replace hb3 : Blk w3 g3 StTR #[.int .u64 (sd : Int), nilS] := hb3
  clear hkx
  repeat with_reducible first | refine wp_seq ?_ | refine nThen ?_ | refine nBlk ?_ | refine wp_skip ?_ | refine wp_block ?_ | refine wp_exit ?_ | refine xThen ?_ | refine xHere ?_ | refine wp_ret ?_
  refine' reg_all hF ?_ mixed (by kernel_rfl) ?_
  rotate_left
  · repeat (first
        | exact Line.nil
        | ((refine' Line.cons rfl (.run rfl rfl ?_) ?_)
           any_goals (first | exact cMove rfl rfl | exact cAssign rfl rfl | exact cLss rfl rfl rfl)
           rotate_left))
  intro a w4 hF hb hN
  have hBs := hB.size
  replace hB := hB.trans (hb.mono hB.size)
  dsimp only [ext, Option.getD] at hF
  repeat with_reducible first | refine wp_seq ?_ | refine nThen ?_ | refine nBlk ?_ | refine wp_skip ?_ | refine wp_block ?_ | refine wp_exit ?_ | refine xThen ?_ | refine xHere ?_ | refine wp_ret ?_
  replace hb3 := hb3.below hb
  refine loop_ty (fun m a wr => ∃ (i : Nat) (u : Value) (S : List Nat) (ss : List Value), i + m = Ls.length ∧ Fr 27 [(1, Ty.ex p1), (2, Ty.ex (.pointer (some ⟨g2, 0, none⟩))), (3, Ty.ex (.pointer (some ⟨g3, 0, none⟩))), (4, Ty.ex (.int .i64 (i : Int)))] a wr ∧ Below w1.heap.size w1 wr ∧ Blk wr g3 StTR #[.int .u64 (sd : Int), u] ∧ Seg wr 72 2 u i (flatT sd ss) S ∧ (Ty.slc 114 ss (Ls.take i)).p wr nilS ∧ ∀ y ∈ S, w1.heap.size ≤ y) Ls.length ?_ ?_
  · exact ⟨0, _, [], [], by omega, hF.keep [1, 2, 3, 4], hB, hb3, Seg.nil _ _ _, Slc.nil _ _, by simp⟩
  clear hF hB hb3
  rintro m a wr ⟨i, u, S, ss, hi, hF, hB, hb3, hseg, hss, hS⟩
  have hp := TP.below hp1 hB
  repeat with_reducible first | refine wp_seq ?_ | refine nThen ?_ | refine nBlk ?_ | refine wp_skip ?_ | refine wp_block ?_ | refine wp_exit ?_ | refine xThen ?_ | refine xHere ?_ | refine wp_ret ?_
  refine' reg_all hF ?_ mixed (by kernel_rfl) ?_
  rotate_left
  · repeat (first
        | exact Line.nil
        | ((refine' Line.cons rfl (.run rfl rfl ?_) ?_)
           any_goals (first | exact cMove rfl rfl | exact cAssign rfl rfl | exact cStraLA rfl (.l rfl hp) | exact cLoadTsA rfl (.t rfl) | exact cLenTA rfl (.t rfl) | exact cLss rfl rfl rfl)
           rotate_left))
  intro a w5 hF hb hN
  have hBs := hB.size
  replace hB := hB.trans (hb.mono hB.size)
  dsimp only [ext, Option.getD] at hF
  repeat with_reducible first | refine wp_seq ?_ | refine nThen ?_ | refine nBlk ?_ | refine wp_skip ?_ | refine wp_block ?_ | refine wp_exit ?_ | refine xThen ?_ | refine xHere ?_ | refine wp_ret ?_
  replace hb3 := hb3.below hb
  replace hseg := hseg.below hb
  replace hss := (Ty.slc 114 ss _).below hss hb
  replace hp := TP.below hp1 hB
  have hw5 := hB.size
  refine cond_ty hF rfl (fun hlt => ?_) (fun hge => ?_)
  · have hlt : i < Ls.length := by have := of_decide_eq_true hlt; omega
    have hsn := takeL_snoc Ls hlt
    have hT := tableOf17_ty sd (Ls.getD i []) (hE i hlt)
    have hat3 := st_atR hb3
    repeat with_reducible first | refine wp_seq ?_ | refine nThen ?_ | refine nBlk ?_ | refine wp_skip ?_ | refine wp_block ?_ | refine wp_exit ?_ | refine xThen ?_ | refine xHere ?_ | refine wp_ret ?_
    refine' region_ty 9 mixed (by kernel_rfl) hF ?_ ?_
    rotate_left
    · simp only [List.take_succ_cons, List.take_zero]
      repeat (first
          | exact Line.nil
          | ((refine' Line.cons rfl (.run rfl rfl ?_) ?_)
             any_goals (first | exact cMove rfl rfl | exact cAssign rfl rfl | exact cStPR rfl rfl | exact cLoad1 (u := u) rfl (.l rfl hat3) (pts_at _ _) Tryd.underlying43 rfl | exact cStraLA rfl (.l rfl hp) | exact cLoadTsA rfl (.t rfl) | exact cIdxTA (k := i) rfl (.t rfl) rfl hlt | exact cLoadTab46 rfl (.t rfl) | exact cCallR1 rfl (.t rfl) hT (tabO_olds _ _ _) | exact cBuildTab1 rfl (Has.c (.t rfl) tabO_tab) Tryd.underlying43 infoT83 | exact cLss rfl rfl rfl)
             rotate_left))
    intro a w6 hF hb hN
    have hBs := hB.size
    replace hB := hB.trans (hb.mono hB.size)
    simp only [List.take_succ_cons, List.take_zero, List.drop_succ_cons, List.drop_zero] at hF hN ⊢
    dsimp only [ext, Option.getD] at hF
    replace hb3 := hb3.below hb
    replace hseg := hseg.below hb
    replace hss := (Ty.slc 114 ss _).below hss hb
    obtain ⟨v23, ⟨s23, hn, hs23⟩, hF⟩ := hF.open (s := 23) rfl
    refine tlAppend (Δ := [(1, Ty.ex p1), (2, Ty.ex (.pointer (some ⟨g2, 0, none⟩))), (3, Ty.ex (.pointer (some ⟨g3, 0, none⟩))), (4, Ty.ex (.int .i64 (i : Int)))]) (n := i) (m := 1) (news := flatT sd [s23]) hF rfl rfl rfl rfl Tryd.underlying43 infoT83 rfl rfl hseg (.l (τ := Ty.sl 72 1 (flatT sd [s23])) rfl hn) sl_news rfl (flatT_one1 hs23 sd) (by simp [maxLen]; omega) (by omega) (hF.keep [1, 2, 3, 4]) rfl ?_
    intro a w7 u' S' hF hseg7 hk7 hS'
    have hb37 := hb3.keeps hk7 (blk_apart hseg hb3 (by decide))
    have hss7 := (Ty.slc 114 ss _).keepSeg hss hk7 hseg rfl
    have hs7 := (Ty.cls 114 _).keepSeg hs23 hk7 hseg rfl
    have hbS : ∀ y ∈ S', w1.heap.size ≤ y := own_next hB hS hS'
    replace hB := below_own hB hk7 hS
    refine' tlOp hF rfl rfl rfl ?_ ?_
    rotate_left
    · first | exact cStPR rfl rfl | exact cMove rfl rfl | exact cAssign rfl rfl | exact cLss rfl rfl rfl
    intro a w8 hF hb
    have hBs := hB.size
    replace hB := hB.trans (hb.mono hB.size)
    try (refine wpList_nil ?_)
    repeat with_reducible first | refine wp_seq ?_ | refine nThen ?_ | refine nBlk ?_ | refine wp_skip ?_ | refine wp_block ?_ | refine wp_exit ?_ | refine xThen ?_ | refine xHere ?_ | refine wp_ret ?_
    have hseg8 := hseg7.below hb
    have hb38 := hb37.below hb
    have hc1 := sl_cells (seg_isA hseg8)
    have ho1 := sl_one1 (seg_isA hseg8)
    refine tlStoreF (k := 1) (v := u') (Δ := [(1, Ty.ex p1), (2, Ty.ex (.pointer (some ⟨g2, 0, none⟩))), (3, Ty.ex (.pointer (some ⟨g3, 0, none⟩))), (4, Ty.ex (.int .i64 (i : Int)))]) hF rfl rfl rfl rfl (hF.getEx (s := 24) rfl) hb38 (by rw [hc1]; simp) (by rw [hc1]; exact sizeTLR) ho1 (hF.keep [1, 2, 3, 4]) rfl ?_
    intro w9 hF hb39 hk9
    rw [show splice #[.int .u64 (sd : Int), u] 1 u'.cells.toList = #[.int .u64 (sd : Int), u'] by rw [hc1]; rfl] at hb39
    refine wpList_nil ?_
    have hss9 := (Ty.slc 114 ss _).far ((Ty.slc 114 ss _).below hss7 hb) hk9 hb38 rfl
    have hs9 := (Ty.cls 114 _).far ((Ty.cls 114 _).below hs7 hb) hk9 hb38 rfl
    have hseg9 := hseg8.keeps hk9 (seg_far hseg8 hb38 (by decide))
    replace hB := below_own hB hk9 (by intro y hy; simp only [List.mem_singleton] at hy; omega)
    repeat with_reducible first | refine wp_seq ?_ | refine nThen ?_ | refine nBlk ?_ | refine wp_skip ?_ | refine wp_block ?_ | refine wp_exit ?_ | refine xThen ?_ | refine xHere ?_ | refine wp_ret ?_
    refine' reg_all hF ?_ mixed (by kernel_rfl) ?_
    rotate_left
    · repeat (first
          | exact Line.nil
          | ((refine' Line.cons rfl (.run rfl rfl ?_) ?_)
             any_goals (first | exact cMove rfl rfl | exact cAssign rfl rfl | exact cAdd (r := ((i + 1 : Nat) : Int)) rfl rfl rfl (by omega) | exact cLss rfl rfl rfl)
             rotate_left))
    intro a w10 hF hb hN
    have hBs := hB.size
    replace hB := hB.trans (hb.mono hB.size)
    dsimp only [ext, Option.getD] at hF
    repeat with_reducible first | refine wp_seq ?_ | refine nThen ?_ | refine nBlk ?_ | refine wp_skip ?_ | refine wp_block ?_ | refine wp_exit ?_ | refine xThen ?_ | refine xHere ?_ | refine wp_ret ?_
    refine ⟨m - 1, by omega, i + 1, u', S', ss ++ [s23], by omega, hF.keep [1, 2, 3, 4], hB, hb39.below hb, ?_, ?_, hbS⟩
    · rw [flatT_snoc]
      exact hseg9.below hb
    · rw [hsn]
      exact (Ty.slc 114 _ _).below (Slc.snoc hss9 hs9) hb
  have hge : ¬ i < Ls.length := by have := of_decide_eq_false hge; omega
  have hiL : i = Ls.length := by omega
  rw [hiL] at hseg hss
  rw [List.take_length] at hss
  have hat3 : (Ty.at_ StTR [.int .u64 (sd : Int), u]).p w5 (.pointer (some ⟨g3, 0, none⟩)) := ⟨g3, 0, _, (0, 0), rfl, hb3, fun j u h => by simpa using h⟩
  replace hb2 := hb2.below hB
  have hw5 := hB.size
  replace hB := hB0.trans (hB.mono hw1)
  repeat with_reducible first | refine wp_seq ?_ | refine nThen ?_ | refine nBlk ?_ | refine wp_skip ?_ | refine wp_block ?_ | refine wp_exit ?_ | refine xThen ?_ | refine xHere ?_ | refine wp_ret ?_
  refine wp_region_lit ?_
  refine' tlOp hF rfl rfl rfl ?_ ?_
  rotate_left
  · first | exact cLoadAll (cs := #[.int .u64 (sd : Int), u]) rfl (.l rfl hat3) Tryd.underlying45 rfl sizeStR | exact cMove rfl rfl | exact cAssign rfl rfl | exact cLss rfl rfl rfl
  intro a w6 hF hb
  have hBs := hB.size
  replace hB := hB.trans (hb.mono hB.size)
  try (refine wpList_nil ?_)
  repeat with_reducible first | refine wp_seq ?_ | refine nThen ?_ | refine nBlk ?_ | refine wp_skip ?_ | refine wp_block ?_ | refine wp_exit ?_ | refine xThen ?_ | refine xHere ?_ | refine wp_ret ?_
  replace hb2 := hb2.below hb
  replace hseg := hseg.below hb
  replace hss := (Ty.slc 114 ss _).below hss hb
  refine tlStoreV (Δ := [(2, Ty.ex (.pointer (some ⟨g2, 0, none⟩)))]) hF rfl rfl rfl rfl (hF.getEx (s := 26) rfl) hb2 rfl sizeStR (sl_one hseg.sl _) (hF.keep [2]) rfl ?_
  intro w7 hF hb2' hkx
  refine wpList_nil ?_
  replace hB := below_own hB hkx (by intro y hy; simp only [List.mem_singleton] at hy; omega)
  have hss7 := (Ty.slc 114 ss _).far hss hkx hb2 rfl
  replace hseg := hseg.keeps hkx (seg_far hseg hb2 (by decide))
  repeat with_reducible first | refine wp_seq ?_ | refine nThen ?_ | refine nBlk ?_ | refine wp_skip ?_ | refine wp_block ?_ | refine wp_exit ?_ | refine xThen ?_ | refine xHere ?_ | refine wp_ret ?_
  refine retCell hF rfl rfl hb2' Tryd.underlying45 rfl sizeStR ?_
  exact ⟨_, rfl, ⟨u, rfl, ss, hss7, hseg.sl⟩, hB⟩
end Go.Proofs.YtgmeagkolahkoaaDoor

/- Layer 16 by types: PeelSelf, PeelOne, PeelRoom. -/
namespace Go.Proofs.YtgmeagkolahkoaaDoor
open Go.RowKit

end Go.Proofs.YtgmeagkolahkoaaDoor

/- Layer 17 by types: awake, StrataCells, StrataSelf. -/
namespace Go.Proofs.YtgmeagkolahkoaaDoor
open Go.RowKit

section
variable {P : Program} {w0 : World} {Γ : Ctx} {o : Oper} {f : FuncId} {ats : Array TypeId} {ρ : Ty}
/-- Calls that ask for the library's table. -/
theorem cCallT0 (ho : o.op = .call { callee := .value (.func f), args := #[], argTypes := ats }) (hT : TabOk w0) (he : Enters P f) (hc : ∀ w, TabOk w → Ret P f #[] w ρ) : OpOk P w0 Γ o ρ :=
  .call fun a w hb _ => ⟨f, #[], by rw [exec_go a.eval ho rfl]; simpa using he #[] w, hc w (hT.below hb)⟩
theorem cCallT2 {x y : Operand} {τ σ : Ty} (ho : o.op = .call { callee := .value (.func f), args := #[x, y], argTypes := ats }) (hx : Has w0 Γ x τ) (hy : Has w0 Γ y σ) (hT : TabOk w0) (he : Enters P f) (hc : ∀ w v u, τ.p w v → σ.p w u → TabOk w → Ret P f #[v, u] w ρ) : OpOk P w0 Γ o ρ :=
  .call fun a w hb hs => by
    obtain ⟨v, h1, h2⟩ := hx.see hs (by simp [ho, Op.operands, Call.operands]) hb
    obtain ⟨u, h3, h4⟩ := hy.see hs (by simp [ho, Op.operands, Call.operands]) hb
    refine ⟨f, #[v, u], ?_, hc w v u h2 h4 (hT.below hb)⟩
    rw [exec_go a.eval ho rfl]
    simp only [List.map_toArray, List.map_cons, List.map_nil, h1, h3]
    exact he _ w
end
theorem tabs_one {T e : TypeId} {sd : Nat} {Ls : List (List Cl)} {w : World} {s : Value} (h : (Ty.tabs T e sd Ls).p w s) (n : Nat) : (Value.agg #[.int .u64 (n : Int), s]).cells.all (·.oneCell') = true := by
  obtain ⟨ss, _, h2⟩ := h
  exact sl_one h2 n
theorem enOf : Enters Tryd.prog 9 := fun args w => by kernel_rfl
theorem stof_hc (seed : Nat) (D : List Sm) (hD : D.length ≤ 1000000) (hsd : seed < 18446744073709551616) : ∀ w v u, (Ty.ex (.int .u64 (seed : Int))).p w v → (Ty.sums 25 D).p w u → TabOk w → Ret Tryd.prog 9 #[v, u] w (Ty.stra 38 27 seed (stL seed D)) := fun w v u hv hu hT => stof_any seed D hD hsd w v u hv hu hT
theorem fewL_turn : fewL [3, 2, 1] = fewL [1, 2, 3] := srt_ext (fewL_srt _) (fewL_srt _) fun x => by
  unfold fewL
  rw [setL_mem, setL_mem]
  simp only [List.map_cons, List.map_nil, List.mem_cons, List.not_mem_nil, or_false]
  constructor <;> rintro (h | h | h) <;> simp [h]
set_option maxRecDepth 100000 in
set_option maxHeartbeats 2000000 in
theorem awake17_ret (w : World) (hT : TabOk w) : Ret Tryd.prog 8 #[] w (Ty.ex (.bool true)) := by
  have f1 := few17_ty [1, 2, 3] (Ty.sl 3 3 [ivz 1, ivz 2, ivz 3]) (reads_sl _ _ _) (by simp)
  have f2 := few17_ty [3, 2, 1] (Ty.sl 3 3 [ivz 3, ivz 2, ivz 1]) (reads_sl _ _ _) (by simp)
  rw [fewL_turn] at f2
  have hl := fewL_len [1, 2, 3]
  have hO := stof_hc 3 (fewL [1, 2, 3]) (by simp at hl; omega) (by omega)
  have gA := stL_good 3 (fewL [1, 2, 3])
  have hD := differ_ty 3 _ _ (by omega) gA gA
  rw [dif_self] at hD
  have hG := sgood_ty 3 (stL 3 (fewL [1, 2, 3])) (by rw [stL_len]; omega)
  rw [gA] at hG
  have lA := stL_len 3 (fewL [1, 2, 3])
  clear hl gA
  generalize stL 3 (fewL [1, 2, 3]) = A at *
  generalize fewL [1, 2, 3] = X at *
  refine enter_ty 33 [] Tryd.func8 rfl (by kernel_rfl) trivial fun a hF => ?_
  have hB := Below.refl w.heap.size w
  let TA := Ty.tabs 38 27 3 A
  repeat with_reducible first | refine wp_seq ?_ | refine nThen ?_ | refine wp_ret ?_
  refine' reg_all hF ?_ mixed (by kernel_rfl) ?_
  rotate_left
  · repeat (first
        | exact Line.nil
        | ((first | refine' Line.cons rfl (.run rfl rfl ?_) ?_ | refine' Line.cons rfl (.yes rfl rfl rfl rfl ?_) ?_)
           any_goals (first | exact cMove rfl rfl | exact cAssign rfl rfl | exact cPickT rfl rfl rfl | exact cEql rfl rfl rfl | exact cExtract rfl rfl rfl)
           rotate_left))
  intro a w1 hF hb hN
  have hBs := hB.size
  replace hB := hB.trans (hb.mono hB.size)
  dsimp only [ext, Option.getD] at hF
  repeat with_reducible first | refine wp_seq ?_ | refine nThen ?_ | refine wp_ret ?_
  refine wp_region_lit ?_
  refine' tlOp hF rfl rfl rfl ?_ ?_
  rotate_left
  · first | exact cBuildV (vs := [ivz 1, ivz 2, ivz 3]) rfl (parts3v rfl rfl rfl rfl) Tryd.underlying23 infoInt rfl (by simp [Value.cells, ivz]) (by decide) (by simp [maxLen]) | exact cMove rfl rfl | exact cAssign rfl rfl | exact cPickT rfl rfl rfl | exact cEql rfl rfl rfl | exact cExtract rfl rfl rfl
  intro a w2 hF hb
  have hBs := hB.size
  replace hB := hB.trans (hb.mono hB.size)
  try (refine wpList_nil ?_)
  repeat with_reducible first | refine wp_seq ?_ | refine nThen ?_ | refine wp_ret ?_
  refine' tlOp hF rfl rfl rfl ?_ ?_
  rotate_left
  · first | exact cCallS1 rfl (.t rfl) f1 | exact cMove rfl rfl | exact cAssign rfl rfl | exact cPickT rfl rfl rfl | exact cEql rfl rfl rfl | exact cExtract rfl rfl rfl
  intro a w3 hF hb
  have hBs := hB.size
  replace hB := hB.trans (hb.mono hB.size)
  try (refine wpList_nil ?_)
  repeat with_reducible first | refine wp_seq ?_ | refine nThen ?_ | refine wp_ret ?_
  refine' tlOp hF rfl rfl rfl ?_ ?_
  rotate_left
  · first | exact cCallT2 rfl (.t rfl) (Has.c (.t rfl) seg_sl) (hT.below hB) enOf hO | exact cMove rfl rfl | exact cAssign rfl rfl | exact cPickT rfl rfl rfl | exact cEql rfl rfl rfl | exact cExtract rfl rfl rfl
  intro a w4 hF hb
  have hBs := hB.size
  replace hB := hB.trans (hb.mono hB.size)
  try (refine wpList_nil ?_)
  repeat with_reducible first | refine wp_seq ?_ | refine nThen ?_ | refine wp_ret ?_
  refine' tlOp hF rfl rfl rfl ?_ ?_
  rotate_left
  · first | exact cBuildV (vs := [ivz 3, ivz 2, ivz 1]) rfl (parts3v rfl rfl rfl rfl) Tryd.underlying23 infoInt rfl (by simp [Value.cells, ivz]) (by decide) (by simp [maxLen]) | exact cMove rfl rfl | exact cAssign rfl rfl | exact cPickT rfl rfl rfl | exact cEql rfl rfl rfl | exact cExtract rfl rfl rfl
  intro a w5 hF hb
  have hBs := hB.size
  replace hB := hB.trans (hb.mono hB.size)
  try (refine wpList_nil ?_)
  repeat with_reducible first | refine wp_seq ?_ | refine nThen ?_ | refine wp_ret ?_
  refine' tlOp hF rfl rfl rfl ?_ ?_
  rotate_left
  · first | exact cCallS1 rfl (.t rfl) f2 | exact cMove rfl rfl | exact cAssign rfl rfl | exact cPickT rfl rfl rfl | exact cEql rfl rfl rfl | exact cExtract rfl rfl rfl
  intro a w6 hF hb
  have hBs := hB.size
  replace hB := hB.trans (hb.mono hB.size)
  try (refine wpList_nil ?_)
  repeat with_reducible first | refine wp_seq ?_ | refine nThen ?_ | refine wp_ret ?_
  refine' tlOp hF rfl rfl rfl ?_ ?_
  rotate_left
  · first | exact cCallT2 rfl (.t rfl) (Has.c (.t rfl) seg_sl) (hT.below hB) enOf hO | exact cMove rfl rfl | exact cAssign rfl rfl | exact cPickT rfl rfl rfl | exact cEql rfl rfl rfl | exact cExtract rfl rfl rfl
  intro a w7 hF hb
  have hBs := hB.size
  replace hB := hB.trans (hb.mono hB.size)
  try (refine wpList_nil ?_)
  repeat with_reducible first | refine wp_seq ?_ | refine nThen ?_ | refine wp_ret ?_
  have hz7 := hB.size
  refine' tlOp hF rfl rfl rfl ?_ ?_
  rotate_left
  · first | exact cAllocN rfl (run_alloc_i infoStA) | exact cMove rfl rfl | exact cAssign rfl rfl | exact cPickT rfl rfl rfl | exact cEql rfl rfl rfl | exact cExtract rfl rfl rfl
  intro a w8 hF hb
  have hBs := hB.size
  replace hB := hB.trans (hb.mono hB.size)
  try (refine wpList_nil ?_)
  repeat with_reducible first | refine wp_seq ?_ | refine nThen ?_ | refine wp_ret ?_
  obtain ⟨z, ⟨g1, rfl, hg1, hb1⟩, hF⟩ := hF.open (s := 1) rfl
  have hg1 : w7.heap.size ≤ g1 := hg1
  have hl1 := hb1.lt
  refine' tlOp hF rfl rfl rfl ?_ ?_
  rotate_left
  · first | exact cAllocN rfl (run_alloc_i infoStA) | exact cMove rfl rfl | exact cAssign rfl rfl | exact cPickT rfl rfl rfl | exact cEql rfl rfl rfl | exact cExtract rfl rfl rfl
  intro a w9 hF hb
  have hBs := hB.size
  replace hB := hB.trans (hb.mono hB.size)
  try (refine wpList_nil ?_)
  repeat with_reducible first | refine wp_seq ?_ | refine nThen ?_ | refine wp_ret ?_
  replace hb1 := hb1.below hb
  obtain ⟨z, ⟨g2, rfl, hg2, hb2⟩, hF⟩ := hF.open (s := 2) rfl
  have hg2 : w8.heap.size ≤ g2 := hg2
  obtain ⟨z, ⟨s7, rfl, ht7⟩, hF⟩ := hF.open (s := 7) rfl
  obtain ⟨z, ⟨s10, rfl, ht10⟩, hF⟩ := hF.open (s := 10) rfl
  have hne : g1 ≠ g2 := by omega
  refine tlStoreV (Δ := [(1, Ty.ex (.pointer (some ⟨g1, 0, none⟩))), (2, Ty.ex (.pointer (some ⟨g2, 0, none⟩))), (10, Ty.ex (.agg #[.int .u64 3, s10]))]) hF rfl rfl rfl rfl (hF.getEx (s := 7) rfl) hb1 rfl sizeStA (tabs_one ht7 3) (hF.keep [1, 2, 10]) rfl ?_
  intro w10 hF hb1' hkx
  replace ht7 := TA.far ht7 hkx hb1 rfl
  replace ht10 := TA.far ht10 hkx hb1 rfl
  replace hb2 := hb2.keeps hkx (by simpa using hne.symm)
  replace hB := below_own hB hkx (by intro y hy; simp only [List.mem_singleton] at hy; omega)
  clear hb1
  refine tlStoreV (Δ := [(1, Ty.ex (.pointer (some ⟨g1, 0, none⟩))), (2, Ty.ex (.pointer (some ⟨g2, 0, none⟩)))]) hF rfl rfl rfl rfl (hF.getEx (s := 10) rfl) hb2 rfl sizeStA (tabs_one ht10 3) (hF.keep [1, 2]) rfl ?_
  intro w11 hF hb2' hkx
  replace ht7 := TA.far ht7 hkx hb2 rfl
  replace ht10 := TA.far ht10 hkx hb2 rfl
  replace hb1' := hb1'.keeps hkx (by simpa using hne)
  replace hB := below_own hB hkx (by intro y hy; simp only [List.mem_singleton] at hy; omega)
  refine wpList_nil ?_
  replace hF := hF.as hF (s := 1) (σ := Ty.straP StT 38 27 3 A) rfl (fun v hv => by
    have hv : v = .pointer (some ⟨g1, 0, none⟩) := hv
    subst hv
    exact ⟨s7, ⟨g1, 0, _, (0, 0), rfl, hb1', fun j u h => by simpa [Value.cells] using h⟩, ht7⟩)
  replace hF := hF.as hF (s := 2) (σ := Ty.straP StT 38 27 3 A) rfl (fun v hv => by
    have hv : v = .pointer (some ⟨g2, 0, none⟩) := hv
    subst hv
    exact ⟨s10, ⟨g2, 0, _, (0, 0), rfl, hb2', fun j u h => by simpa [Value.cells] using h⟩, ht10⟩)
  repeat with_reducible first | refine wp_seq ?_ | refine nThen ?_ | refine wp_ret ?_
  refine' reg_all hF ?_ mixed (by kernel_rfl) ?_
  rotate_left
  · repeat (first
        | exact Line.nil
        | ((first | refine' Line.cons rfl (.run rfl rfl ?_) ?_ | refine' Line.cons rfl (.yes rfl rfl rfl rfl ?_) ?_)
           any_goals (first | exact cMove rfl rfl | exact cAssign rfl rfl | exact cLoadStA rfl (.t rfl) | exact cCallH2 rfl (.t rfl) (.t rfl) hD | exact cPickT rfl rfl rfl | exact cEql rfl rfl rfl | exact cExtract rfl rfl rfl)
           rotate_left))
  intro a w12 hF hb hN
  have hBs := hB.size
  replace hB := hB.trans (hb.mono hB.size)
  dsimp only [ext, Option.getD] at hF
  repeat with_reducible first | refine wp_seq ?_ | refine nThen ?_ | refine wp_ret ?_
  refine' reg_all hF ?_ mixed (by kernel_rfl) ?_
  rotate_left
  · repeat (first
        | exact Line.nil
        | ((first | refine' Line.cons rfl (.run rfl rfl ?_) ?_ | refine' Line.cons rfl (.yes rfl rfl rfl rfl ?_) ?_)
           any_goals (first | exact cMove rfl rfl | exact cAssign rfl rfl | exact OpOk.b (c := true) (cEql rfl rfl rfl) rfl | exact cLoadStA rfl (.t rfl) | exact cCall1 rfl rfl hG | exact cStraLA rfl (.t rfl) | exact cLoadTsA rfl (.t rfl) | exact cLenTA rfl (.t rfl) | exact OpOk.b (c := true) (cEql rfl rfl rfl) (decide_eq_true (by omega)) | exact cPickT rfl rfl rfl | exact cEql rfl rfl rfl | exact cExtract rfl rfl rfl)
           rotate_left))
  intro a w13 hF hb hN
  have hBs := hB.size
  replace hB := hB.trans (hb.mono hB.size)
  dsimp only [ext, Option.getD] at hF
  repeat with_reducible first | refine wp_seq ?_ | refine nThen ?_ | refine wp_ret ?_
  refine ret1 hF rfl rfl fun z hz => ?_
  exact ⟨z, rfl, hz, hB⟩
theorem enAwake17 : Enters Tryd.prog 8 := fun args w => by kernel_rfl
end Go.Proofs.YtgmeagkolahkoaaDoor

/- Layer 17: StrataRaw. -/
namespace Go.Proofs.YtgmeagkolahkoaaDoor
open Go.RowKit

section
variable {P : Program} {w0 : World} {Γ : Ctx} {o : Oper} {f : FuncId} {ats : Array TypeId} {ρ : Ty}
theorem cCallT2b {x y : Operand} {τ σ : Ty} (ho : o.op = .call { callee := .value (.func f), args := #[x, y], argTypes := ats }) (hx : Has w0 Γ x τ) (hy : Has w0 Γ y σ) (hT : TabOk w0) (he : Enters P f) (hc : ∀ w v u, w0.heap.size ≤ w.heap.size → τ.p w v → σ.p w u → TabOk w → Ret P f #[v, u] w ρ) : OpOk P w0 Γ o ρ :=
  .call fun a w hb hs => by
    obtain ⟨v, h1, h2⟩ := hx.see hs (by simp [ho, Op.operands, Call.operands]) hb
    obtain ⟨u, h3, h4⟩ := hy.see hs (by simp [ho, Op.operands, Call.operands]) hb
    refine ⟨f, #[v, u], ?_, hc w v u hb.size h2 h4 (hT.below hb)⟩
    rw [exec_go a.eval ho rfl]
    simp only [List.map_toArray, List.map_cons, List.map_nil, h1, h3]
    exact he _ w
end
section
variable {w0 : World} {Γ : Ctx} {o : Oper} {x : Operand} {sd : Nat} {L : List Cl} {e : TypeId}
theorem cTabLA (ho : o.op = .fieldAddr 38 x 1) (hx : Has w0 Γ x (Ty.tabP 38 e sd L)) : OpOk Tryd.prog w0 Γ o (Ty.selS 38 e L.length (flatC L)) :=
  .val fun a w hb hs => by
    obtain ⟨v, h1, s, ⟨g, off, cs, fr, rfl, h2, h3⟩, k1⟩ := hx.see hs (by simp [ho, Op.operands]) hb
    have hr := run_fieldAt (P := Tryd.prog) (i := 1) Tryd.underlying38 rfl size_row46 g off w
    refine ⟨.pointer (some ⟨g, off + 1, none⟩), ⟨s, ⟨g, off + 1, cs, fr, rfl, h2, fun j u hu => ?_⟩, k1⟩, ?_⟩
    · cases j with
      | zero => exact h3 1 u hu
      | succ j => simp at hu
    · unfold execOp
      simp [ho, h1, hr]
theorem cLoadSelC {t : TypeId} {n : Nat} {xs : List Value} (ho : o.op = .load 36 x) (hx : OpT Γ x (Ty.selS t e n xs)) : OpOk Tryd.prog w0 Γ o (Ty.sl e n xs) :=
  .val fun a w hb hs => by
    obtain ⟨v, h1, p, hat, hsl⟩ := hs x _ (by simp [ho, Op.operands]) hx
    obtain ⟨ad, rfl, h3⟩ := pts_at _ _ w v hat
    refine ⟨p, hsl, ?_⟩
    have h4 := run_loadVar_one (P := Tryd.prog) h3 Tryd.underlying36 rfl
    unfold execOp
    simp [ho, h1, Instr.loadAt, Instr.sureAddr, h4]
end
theorem nil_sumsJ : ∀ (w : World) (v : Value), (Ty.ex nilS).p w v → (Ty.sums 25 []).p w v := fun w v h => by
  have h : v = nilS := h
  rw [h]
  exact sums_nil w
theorem getDL_set (Ls : List (List Cl)) {q : Nat} (hq : q < Ls.length) (X : List Cl) (j : Nat) : (Ls.set q X).getD j [] = if j = q then X else Ls.getD j [] := by
  by_cases h : j = q
  · subst h; simp [List.getD, hq]
  · have h' : ¬ q = j := fun e => h e.symm
    simp [List.getD, h, h']
theorem Slw.set {lo : Nat} {w w' : World} {e : TypeId} {ss : List Value} {Ls : List (List Cl)} {S : Nat → List Nat} (h : Slw lo w e ss Ls S) {q : Nat} (hq : q < Ls.length) {X : List Cl} (k : Keeps (S q) w w') (hs : Seg w' e 65 (ss.getD q nilS) X.length (flatC X) (S q)) : Slc w' e ss (Ls.set q X) := ⟨by rw [List.length_set]; exact h.1, fun j hj => by
  rw [List.length_set] at hj
  rw [getDL_set Ls hq X j]
  by_cases hjq : j = q
  · rw [if_pos hjq, hjq]; exact hs.sl
  · rw [if_neg hjq]
    refine ((h.2.1 j hj).1.keeps k fun y hy hm => ?_).sl
    by_cases hl : j < q
    · exact h.2.2 j q hl hq y hy hm
    · exact h.2.2 q j (by omega) hj y hm hy⟩
theorem flatT_append (sd : Nat) (a b : List Value) : flatT sd (a ++ b) = flatT sd a ++ flatT sd b := by unfold flatT; rw [List.flatMap_append]
theorem tabs_take {T e : TypeId} {sd : Nat} {Ls : List (List Cl)} {w : World} {A : Option Addr} {n c m : Nat} (h : (Ty.tabs T e sd Ls).p w (.slice A n c)) (hm : m ≤ n) : n = Ls.length ∧ n ≤ c ∧ (A = none → c = 0) ∧ (Ty.tabs T e sd (Ls.take m)).p w (.slice A m c) := by
  obtain ⟨ss, ⟨h1, h2⟩, A', c', he, h3, h4, h5, h6⟩ := h
  simp only [Value.slice.injEq] at he
  obtain ⟨rfl, rfl, rfl⟩ := he
  have hl : (Ls.take m).length = m := by rw [List.length_take]; omega
  refine ⟨rfl, h3, fun hA => (h5 hA).2, ss.take m, ⟨by rw [List.length_take, List.length_take, h1], fun k hk => ?_⟩, A, c, by rw [hl], by omega, h4, fun hA => ⟨by have := h5 hA; omega, (h5 hA).2⟩, fun j u hu => h6 j u ?_⟩
  · rw [hl] at hk
    have e1 : (ss.take m).getD k nilS = ss.getD k nilS := by simp [List.getD, hk]
    have e2 : (Ls.take m).getD k [] = Ls.getD k [] := by simp [List.getD, hk]
    rw [e1, e2]
    exact h2 k (by omega)
  · have e : flatT sd ss = flatT sd (ss.take m) ++ flatT sd (ss.drop m) := by rw [← flatT_append, List.take_append_drop]
    rw [e, List.getElem?_append_left (List.getElem?_eq_some_iff.1 hu).1]
    exact hu
set_option maxRecDepth 100000 in
set_option maxHeartbeats 4000000 in
theorem lawStrataRaw_any (seed : Nat) (l : List Int) (at_ : Int) (c : Cl) (cut : Int) {W : World} {v1 : Value} (hsd : seed < 18446744073709551616) (h1 : (Ty.rd l.length (l.map ivz)).p W v1) (hT : TabOk W) : Calls Tryd.prog 3 #[.int .u64 (seed : Int), v1, .int .i64 at_, .agg c.a, .int .i64 cut] W fun e w' => e = .returned (.bool true) ∧ Below W.heap.size W w' := by
  let TA := Ty.rd l.length (l.map ivz)
  refine enter_ty 105 [Ty.ex (.int .u64 (seed : Int)), Ty.ex v1, Ty.ex (.int .i64 at_), Ty.ex (.agg c.a), Ty.ex (.int .i64 cut)] Tryd.func3 rfl (by kernel_rfl) ⟨rfl, rfl, rfl, rfl, rfl, trivial⟩ fun a hF => ?_
  have hB := Below.refl W.heap.size W
  repeat with_reducible first | refine wp_seq ?_ | refine nThen ?_ | refine wp_skip ?_ | refine wp_ret ?_ | refine rThen ?_
  refine' reg_all hF ?_ mixed (by kernel_rfl) ?_
  rotate_left
  · repeat (first
        | exact Line.nil
        | (refine' Line.cons rfl (.no rfl rfl rfl rfl rfl rfl) ?_; rotate_left)
        | ((first | refine' Line.cons rfl (.run rfl rfl ?_) ?_ | refine' Line.cons rfl (.yes rfl rfl rfl rfl ?_) ?_)
           any_goals (first | exact cMove rfl rfl | exact cAssign rfl rfl | exact cNot rfl rfl | exact cBoxCl rfl rfl | exact cPickT rfl rfl rfl | exact cPickF rfl rfl rfl | exact cLss rfl rfl rfl | exact cGtr rfl rfl rfl | exact cGeq rfl rfl rfl | exact cEql rfl rfl rfl | exact cNeq rfl rfl rfl | exact cExtract rfl rfl rfl)
           rotate_left))
  intro a w1 hF hb hN
  have hBs := hB.size
  replace hB := hB.trans (hb.mono hB.size)
  dsimp only [ext, Option.getD] at hF
  repeat with_reducible first | refine wp_seq ?_ | refine nThen ?_ | refine wp_skip ?_ | refine wp_ret ?_ | refine rThen ?_
  obtain ⟨p8, hp8, hF⟩ := hF.open (s := 8) rfl
  have hp8 : (Ty.at_ 27 c.enc).p w1 p8 := hp8
  let TC := Ty.at_ 27 c.enc
  refine' reg_all hF ?_ mixed (by kernel_rfl) ?_
  rotate_left
  · repeat (first
        | exact Line.nil
        | (refine' Line.cons rfl (.no rfl rfl rfl rfl rfl rfl) ?_; rotate_left)
        | ((first | refine' Line.cons rfl (.run rfl rfl ?_) ?_ | refine' Line.cons rfl (.yes rfl rfl rfl rfl ?_) ?_)
           any_goals (first | exact cMove rfl rfl | exact cAssign rfl rfl | exact cNot rfl rfl | exact cCallT0 rfl (hT.below hB) enAwake17 awake17_ret | exact cPickT rfl rfl rfl | exact cPickF rfl rfl rfl | exact cLss rfl rfl rfl | exact cGtr rfl rfl rfl | exact cGeq rfl rfl rfl | exact cEql rfl rfl rfl | exact cNeq rfl rfl rfl | exact cExtract rfl rfl rfl)
           rotate_left))
  intro a w2 hF hb hN
  have hBs := hB.size
  replace hB := hB.trans (hb.mono hB.size)
  dsimp only [ext, Option.getD] at hF
  repeat with_reducible first | refine wp_seq ?_ | refine nThen ?_ | refine wp_skip ?_ | refine wp_ret ?_ | refine rThen ?_
  replace hp8 := TC.below hp8 hb
  refine cond_f hF rfl ?_
  repeat with_reducible first | refine wp_seq ?_ | refine nThen ?_ | refine wp_skip ?_ | refine wp_ret ?_ | refine rThen ?_
  have k2 := TA.below h1 hB
  by_cases c0 : (30 : Int) < l.length
  · refine' reg_all hF ?_ mixed (by kernel_rfl) ?_
    rotate_left
    · repeat (first
          | exact Line.nil
          | (refine' Line.cons rfl (.no rfl rfl rfl rfl rfl rfl) ?_; rotate_left)
          | ((first | refine' Line.cons rfl (.run rfl rfl ?_) ?_ | refine' Line.cons rfl (.yes rfl rfl rfl rfl ?_) ?_)
             any_goals (first | exact cMove rfl rfl | exact cAssign rfl rfl | exact cNot rfl rfl | exact cLenH rfl (.l rfl k2) (Ty.rd_isSl _ _) Tryd.underlying23 | exact OpOk.b (c := true) (cGtr rfl rfl rfl) (decide_eq_true (by omega)) | exact OpOk.b (c := false) (cGtr rfl rfl rfl) (decide_eq_false (by omega)) | exact OpOk.b (c := true) (cLss rfl rfl rfl) (decide_eq_true (by omega)) | exact OpOk.b (c := false) (cLss rfl rfl rfl) (decide_eq_false (by omega)) | exact OpOk.b (c := true) (cGeq rfl rfl rfl) (decide_eq_true (by omega)) | exact OpOk.b (c := false) (cGeq rfl rfl rfl) (decide_eq_false (by omega)) | exact cPickT rfl rfl rfl | exact cPickF rfl rfl rfl | exact cLss rfl rfl rfl | exact cGtr rfl rfl rfl | exact cGeq rfl rfl rfl | exact cEql rfl rfl rfl | exact cNeq rfl rfl rfl | exact cExtract rfl rfl rfl)
             rotate_left))
    intro a w3 hF hb hN
    have hBs := hB.size
    replace hB := hB.trans (hb.mono hB.size)
    dsimp only [ext, Option.getD] at hF
    repeat with_reducible first | refine wp_seq ?_ | refine nThen ?_ | refine wp_skip ?_ | refine wp_ret ?_ | refine rThen ?_
    refine cond_t hF rfl ?_
    repeat with_reducible first | refine wp_seq ?_ | refine nThen ?_ | refine wp_skip ?_ | refine wp_ret ?_ | refine rThen ?_
    refine' reg_all hF ?_ mixed (by kernel_rfl) ?_
    rotate_left
    · repeat (first
          | exact Line.nil
          | (refine' Line.cons rfl (.no rfl rfl rfl rfl rfl rfl) ?_; rotate_left)
          | ((first | refine' Line.cons rfl (.run rfl rfl ?_) ?_ | refine' Line.cons rfl (.yes rfl rfl rfl rfl ?_) ?_)
             any_goals (first | exact cMove rfl rfl | exact cAssign rfl rfl | exact cNot rfl rfl | exact cPickT rfl rfl rfl | exact cPickF rfl rfl rfl | exact cLss rfl rfl rfl | exact cGtr rfl rfl rfl | exact cGeq rfl rfl rfl | exact cEql rfl rfl rfl | exact cNeq rfl rfl rfl | exact cExtract rfl rfl rfl)
             rotate_left))
    intro a w4 hF hb hN
    have hBs := hB.size
    replace hB := hB.trans (hb.mono hB.size)
    dsimp only [ext, Option.getD] at hF
    repeat with_reducible first | refine wp_seq ?_ | refine nThen ?_ | refine wp_skip ?_ | refine wp_ret ?_ | refine rThen ?_
    refine ret1 hF rfl rfl fun z hz => ?_
    exact ⟨by rw [show z = .bool true from hz], hB⟩
  by_cases c1 : cut < 0
  · refine' reg_all hF ?_ mixed (by kernel_rfl) ?_
    rotate_left
    · repeat (first
          | exact Line.nil
          | (refine' Line.cons rfl (.no rfl rfl rfl rfl rfl rfl) ?_; rotate_left)
          | ((first | refine' Line.cons rfl (.run rfl rfl ?_) ?_ | refine' Line.cons rfl (.yes rfl rfl rfl rfl ?_) ?_)
             any_goals (first | exact cMove rfl rfl | exact cAssign rfl rfl | exact cNot rfl rfl | exact cLenH rfl (.l rfl k2) (Ty.rd_isSl _ _) Tryd.underlying23 | exact OpOk.b (c := true) (cGtr rfl rfl rfl) (decide_eq_true (by omega)) | exact OpOk.b (c := false) (cGtr rfl rfl rfl) (decide_eq_false (by omega)) | exact OpOk.b (c := true) (cLss rfl rfl rfl) (decide_eq_true (by omega)) | exact OpOk.b (c := false) (cLss rfl rfl rfl) (decide_eq_false (by omega)) | exact OpOk.b (c := true) (cGeq rfl rfl rfl) (decide_eq_true (by omega)) | exact OpOk.b (c := false) (cGeq rfl rfl rfl) (decide_eq_false (by omega)) | exact cPickT rfl rfl rfl | exact cPickF rfl rfl rfl | exact cLss rfl rfl rfl | exact cGtr rfl rfl rfl | exact cGeq rfl rfl rfl | exact cEql rfl rfl rfl | exact cNeq rfl rfl rfl | exact cExtract rfl rfl rfl)
             rotate_left))
    intro a w3 hF hb hN
    have hBs := hB.size
    replace hB := hB.trans (hb.mono hB.size)
    dsimp only [ext, Option.getD] at hF
    repeat with_reducible first | refine wp_seq ?_ | refine nThen ?_ | refine wp_skip ?_ | refine wp_ret ?_ | refine rThen ?_
    refine cond_t hF rfl ?_
    repeat with_reducible first | refine wp_seq ?_ | refine nThen ?_ | refine wp_skip ?_ | refine wp_ret ?_ | refine rThen ?_
    refine' reg_all hF ?_ mixed (by kernel_rfl) ?_
    rotate_left
    · repeat (first
          | exact Line.nil
          | (refine' Line.cons rfl (.no rfl rfl rfl rfl rfl rfl) ?_; rotate_left)
          | ((first | refine' Line.cons rfl (.run rfl rfl ?_) ?_ | refine' Line.cons rfl (.yes rfl rfl rfl rfl ?_) ?_)
             any_goals (first | exact cMove rfl rfl | exact cAssign rfl rfl | exact cNot rfl rfl | exact cPickT rfl rfl rfl | exact cPickF rfl rfl rfl | exact cLss rfl rfl rfl | exact cGtr rfl rfl rfl | exact cGeq rfl rfl rfl | exact cEql rfl rfl rfl | exact cNeq rfl rfl rfl | exact cExtract rfl rfl rfl)
             rotate_left))
    intro a w4 hF hb hN
    have hBs := hB.size
    replace hB := hB.trans (hb.mono hB.size)
    dsimp only [ext, Option.getD] at hF
    repeat with_reducible first | refine wp_seq ?_ | refine nThen ?_ | refine wp_skip ?_ | refine wp_ret ?_ | refine rThen ?_
    refine ret1 hF rfl rfl fun z hz => ?_
    exact ⟨by rw [show z = .bool true from hz], hB⟩
  by_cases c2 : 12 < cut
  · refine' reg_all hF ?_ mixed (by kernel_rfl) ?_
    rotate_left
    · repeat (first
          | exact Line.nil
          | (refine' Line.cons rfl (.no rfl rfl rfl rfl rfl rfl) ?_; rotate_left)
          | ((first | refine' Line.cons rfl (.run rfl rfl ?_) ?_ | refine' Line.cons rfl (.yes rfl rfl rfl rfl ?_) ?_)
             any_goals (first | exact cMove rfl rfl | exact cAssign rfl rfl | exact cNot rfl rfl | exact cLenH rfl (.l rfl k2) (Ty.rd_isSl _ _) Tryd.underlying23 | exact OpOk.b (c := true) (cGtr rfl rfl rfl) (decide_eq_true (by omega)) | exact OpOk.b (c := false) (cGtr rfl rfl rfl) (decide_eq_false (by omega)) | exact OpOk.b (c := true) (cLss rfl rfl rfl) (decide_eq_true (by omega)) | exact OpOk.b (c := false) (cLss rfl rfl rfl) (decide_eq_false (by omega)) | exact OpOk.b (c := true) (cGeq rfl rfl rfl) (decide_eq_true (by omega)) | exact OpOk.b (c := false) (cGeq rfl rfl rfl) (decide_eq_false (by omega)) | exact cPickT rfl rfl rfl | exact cPickF rfl rfl rfl | exact cLss rfl rfl rfl | exact cGtr rfl rfl rfl | exact cGeq rfl rfl rfl | exact cEql rfl rfl rfl | exact cNeq rfl rfl rfl | exact cExtract rfl rfl rfl)
             rotate_left))
    intro a w3 hF hb hN
    have hBs := hB.size
    replace hB := hB.trans (hb.mono hB.size)
    dsimp only [ext, Option.getD] at hF
    repeat with_reducible first | refine wp_seq ?_ | refine nThen ?_ | refine wp_skip ?_ | refine wp_ret ?_ | refine rThen ?_
    refine cond_t hF rfl ?_
    repeat with_reducible first | refine wp_seq ?_ | refine nThen ?_ | refine wp_skip ?_ | refine wp_ret ?_ | refine rThen ?_
    refine' reg_all hF ?_ mixed (by kernel_rfl) ?_
    rotate_left
    · repeat (first
          | exact Line.nil
          | (refine' Line.cons rfl (.no rfl rfl rfl rfl rfl rfl) ?_; rotate_left)
          | ((first | refine' Line.cons rfl (.run rfl rfl ?_) ?_ | refine' Line.cons rfl (.yes rfl rfl rfl rfl ?_) ?_)
             any_goals (first | exact cMove rfl rfl | exact cAssign rfl rfl | exact cNot rfl rfl | exact cPickT rfl rfl rfl | exact cPickF rfl rfl rfl | exact cLss rfl rfl rfl | exact cGtr rfl rfl rfl | exact cGeq rfl rfl rfl | exact cEql rfl rfl rfl | exact cNeq rfl rfl rfl | exact cExtract rfl rfl rfl)
             rotate_left))
    intro a w4 hF hb hN
    have hBs := hB.size
    replace hB := hB.trans (hb.mono hB.size)
    dsimp only [ext, Option.getD] at hF
    repeat with_reducible first | refine wp_seq ?_ | refine nThen ?_ | refine wp_skip ?_ | refine wp_ret ?_ | refine rThen ?_
    refine ret1 hF rfl rfl fun z hz => ?_
    exact ⟨by rw [show z = .bool true from hz], hB⟩
  have f1 := few17_ty l TA (reads_rd _ _) (by omega)
  have hXl := fewL_len l
  generalize fewL l = D at *
  have lA := stL_len seed D
  have lN := stL_len seed []
  have o1 : ∀ lo w v u, lo ≤ w.heap.size → (Ty.ex (.int .u64 (seed : Int))).p w v → (Ty.sums 25 D).p w u → TabOk w → Ret Tryd.prog 9 #[v, u] w (Ty.straO lo 38 27 seed (stL seed D)) := fun lo w v u h hv hu hT => stofO_any lo seed D (by omega) hsd w h v u hv hu hT
  have o2 : ∀ lo w v u, lo ≤ w.heap.size → (Ty.ex (.int .u64 (seed : Int))).p w v → (Ty.sums 25 []).p w u → TabOk w → Ret Tryd.prog 9 #[v, u] w (Ty.straO lo 38 27 seed (stL seed [])) := fun lo w v u h hv hu hT => stofO_any lo seed [] (by simp) hsd w h v u hv hu hT
  have gA := (goodSt_get (stL_good seed D)).2
  have gN := stL_good seed []
  generalize stL seed D = A at *
  generalize stL seed [] = N at *
  refine' reg_all hF ?_ mixed (by kernel_rfl) ?_
  rotate_left
  · repeat (first
        | exact Line.nil
        | (refine' Line.cons rfl (.no rfl rfl rfl rfl rfl rfl) ?_; rotate_left)
        | ((first | refine' Line.cons rfl (.run rfl rfl ?_) ?_ | refine' Line.cons rfl (.yes rfl rfl rfl rfl ?_) ?_)
           any_goals (first | exact cMove rfl rfl | exact cAssign rfl rfl | exact cNot rfl rfl | exact cLenH rfl (.l rfl k2) (Ty.rd_isSl _ _) Tryd.underlying23 | exact OpOk.b (c := true) (cGtr rfl rfl rfl) (decide_eq_true (by omega)) | exact OpOk.b (c := false) (cGtr rfl rfl rfl) (decide_eq_false (by omega)) | exact OpOk.b (c := true) (cLss rfl rfl rfl) (decide_eq_true (by omega)) | exact OpOk.b (c := false) (cLss rfl rfl rfl) (decide_eq_false (by omega)) | exact OpOk.b (c := true) (cGeq rfl rfl rfl) (decide_eq_true (by omega)) | exact OpOk.b (c := false) (cGeq rfl rfl rfl) (decide_eq_false (by omega)) | exact cPickT rfl rfl rfl | exact cPickF rfl rfl rfl | exact cLss rfl rfl rfl | exact cGtr rfl rfl rfl | exact cGeq rfl rfl rfl | exact cEql rfl rfl rfl | exact cNeq rfl rfl rfl | exact cExtract rfl rfl rfl)
           rotate_left))
  intro a w3 hF hb hN
  have hBs := hB.size
  replace hB := hB.trans (hb.mono hB.size)
  dsimp only [ext, Option.getD] at hF
  repeat with_reducible first | refine wp_seq ?_ | refine nThen ?_ | refine wp_skip ?_ | refine wp_ret ?_ | refine rThen ?_
  replace hp8 := TC.below hp8 hb
  refine cond_f hF rfl ?_
  repeat with_reducible first | refine wp_seq ?_ | refine nThen ?_ | refine wp_skip ?_ | refine wp_ret ?_ | refine rThen ?_
  replace k2 := TA.below k2 hb
  refine wp_region_lit ?_
  refine' tlOp hF rfl rfl rfl ?_ ?_
  rotate_left
  · first | exact cMove rfl rfl | exact cAssign rfl rfl | exact cPickT rfl rfl rfl | exact cPickF rfl rfl rfl | exact cNot rfl rfl | exact cLss rfl rfl rfl | exact cGtr rfl rfl rfl | exact cGeq rfl rfl rfl | exact cEql rfl rfl rfl | exact cNeq rfl rfl rfl | exact cExtract rfl rfl rfl
  intro a w4 hF hb
  have hBs := hB.size
  replace hB := hB.trans (hb.mono hB.size)
  try (refine wpList_nil ?_)
  repeat with_reducible first | refine wp_seq ?_ | refine nThen ?_ | refine wp_skip ?_ | refine wp_ret ?_ | refine rThen ?_
  replace k2 := TA.below k2 hb
  replace hp8 := TC.below hp8 hb
  refine' tlOp hF rfl rfl rfl ?_ ?_
  rotate_left
  · first | exact cMove rfl rfl | exact cAssign rfl rfl | exact cPickT rfl rfl rfl | exact cPickF rfl rfl rfl | exact cNot rfl rfl | exact cLss rfl rfl rfl | exact cGtr rfl rfl rfl | exact cGeq rfl rfl rfl | exact cEql rfl rfl rfl | exact cNeq rfl rfl rfl | exact cExtract rfl rfl rfl
  intro a w5 hF hb
  have hBs := hB.size
  replace hB := hB.trans (hb.mono hB.size)
  try (refine wpList_nil ?_)
  repeat with_reducible first | refine wp_seq ?_ | refine nThen ?_ | refine wp_skip ?_ | refine wp_ret ?_ | refine rThen ?_
  replace k2 := TA.below k2 hb
  replace hp8 := TC.below hp8 hb
  refine' tlOp hF rfl rfl rfl ?_ ?_
  rotate_left
  · first | exact cCallS1 rfl (.l rfl k2) f1 | exact cMove rfl rfl | exact cAssign rfl rfl | exact cPickT rfl rfl rfl | exact cPickF rfl rfl rfl | exact cNot rfl rfl | exact cLss rfl rfl rfl | exact cGtr rfl rfl rfl | exact cGeq rfl rfl rfl | exact cEql rfl rfl rfl | exact cNeq rfl rfl rfl | exact cExtract rfl rfl rfl
  intro a w6 hF hb
  have hBs := hB.size
  replace hB := hB.trans (hb.mono hB.size)
  try (refine wpList_nil ?_)
  repeat with_reducible first | refine wp_seq ?_ | refine nThen ?_ | refine wp_skip ?_ | refine wp_ret ?_ | refine rThen ?_
  replace hp8 := TC.below hp8 hb
  have hw6 := hB.size
  refine' tlOp hF rfl rfl rfl ?_ ?_
  rotate_left
  · first | exact cCallT2b rfl (.t rfl) (Has.c (.t rfl) seg_sl) (hT.below hB) enOf (o1 _) | exact cMove rfl rfl | exact cAssign rfl rfl | exact cPickT rfl rfl rfl | exact cPickF rfl rfl rfl | exact cNot rfl rfl | exact cLss rfl rfl rfl | exact cGtr rfl rfl rfl | exact cGeq rfl rfl rfl | exact cEql rfl rfl rfl | exact cNeq rfl rfl rfl | exact cExtract rfl rfl rfl
  intro a w7 hF hb
  have hBs := hB.size
  replace hB := hB.trans (hb.mono hB.size)
  try (refine wpList_nil ?_)
  repeat with_reducible first | refine wp_seq ?_ | refine nThen ?_ | refine wp_skip ?_ | refine wp_ret ?_ | refine rThen ?_
  replace hp8 := TC.below hp8 hb
  obtain ⟨z, ⟨s7, ss, S, So, rfl, hx, hs7, hSo⟩, hF⟩ := hF.open (s := 33) rfl
  have hSlt : ∀ k, k < A.length → ∀ y ∈ S k, W.heap.size ≤ y ∧ y < w7.heap.size := fun k hk y hy => ⟨Nat.le_trans hw6 ((hx.2.1 k hk).2 y hy), (hx.2.1 k hk).1.lt y hy⟩
  have hw7 := hB.size
  refine' tlOp hF rfl rfl rfl ?_ ?_
  rotate_left
  · first | exact cMove rfl rfl | exact cAssign rfl rfl | exact cPickT rfl rfl rfl | exact cPickF rfl rfl rfl | exact cNot rfl rfl | exact cLss rfl rfl rfl | exact cGtr rfl rfl rfl | exact cGeq rfl rfl rfl | exact cEql rfl rfl rfl | exact cNeq rfl rfl rfl | exact cExtract rfl rfl rfl
  intro a w8 hF hb
  have hBs := hB.size
  replace hB := hB.trans (hb.mono hB.size)
  try (refine wpList_nil ?_)
  repeat with_reducible first | refine wp_seq ?_ | refine nThen ?_ | refine wp_skip ?_ | refine wp_ret ?_ | refine rThen ?_
  replace hp8 := TC.below hp8 hb
  replace hx := hx.below hb
  replace hs7 := hs7.below hb
  have hw78 := hb.size
  refine' tlOp hF rfl rfl rfl ?_ ?_
  rotate_left
  · first | exact cCallT2b rfl (.t rfl) (Has.c (.t rfl) nil_sumsJ) (hT.below hB) enOf (o2 _) | exact cMove rfl rfl | exact cAssign rfl rfl | exact cPickT rfl rfl rfl | exact cPickF rfl rfl rfl | exact cNot rfl rfl | exact cLss rfl rfl rfl | exact cGtr rfl rfl rfl | exact cGeq rfl rfl rfl | exact cEql rfl rfl rfl | exact cNeq rfl rfl rfl | exact cExtract rfl rfl rfl
  intro a w9 hF hb
  have hBs := hB.size
  replace hB := hB.trans (hb.mono hB.size)
  try (refine wpList_nil ?_)
  repeat with_reducible first | refine wp_seq ?_ | refine nThen ?_ | refine wp_skip ?_ | refine wp_ret ?_ | refine rThen ?_
  replace hp8 := TC.below hp8 hb
  replace hx := hx.below hb
  replace hs7 := hs7.below hb
  obtain ⟨z, ⟨s10, ss2, S2, So2, rfl, hy, hs10, hSo2⟩, hF⟩ := hF.open (s := 35) rfl
  have hap : ∀ k j, k < A.length → j < N.length → ∀ y ∈ S2 j, y ∉ S k := fun k j hk hj y hy2 hm => by
    have h1 := (hSlt k hk y hm).2
    have h2 := (hy.2.1 j hj).2 y hy2
    omega
  have hz9 := hB.size
  refine' tlOp hF rfl rfl rfl ?_ ?_
  rotate_left
  · first | exact cAllocN rfl (run_alloc_i infoStA) | exact cMove rfl rfl | exact cAssign rfl rfl | exact cPickT rfl rfl rfl | exact cPickF rfl rfl rfl | exact cNot rfl rfl | exact cLss rfl rfl rfl | exact cGtr rfl rfl rfl | exact cGeq rfl rfl rfl | exact cEql rfl rfl rfl | exact cNeq rfl rfl rfl | exact cExtract rfl rfl rfl
  intro a w10 hF hb
  have hBs := hB.size
  replace hB := hB.trans (hb.mono hB.size)
  try (refine wpList_nil ?_)
  repeat with_reducible first | refine wp_seq ?_ | refine nThen ?_ | refine wp_skip ?_ | refine wp_ret ?_ | refine rThen ?_
  replace hp8 := TC.below hp8 hb
  replace hx := hx.below hb
  replace hs7 := hs7.below hb
  replace hy := hy.below hb
  replace hs10 := hs10.below hb
  obtain ⟨z, ⟨g1, rfl, hg1, hb1⟩, hF⟩ := hF.open (s := 11) rfl
  have hg1 : w9.heap.size ≤ g1 := hg1
  have hl1 := hb1.lt
  refine' tlOp hF rfl rfl rfl ?_ ?_
  rotate_left
  · first | exact cAllocN rfl (run_alloc_i infoStA) | exact cMove rfl rfl | exact cAssign rfl rfl | exact cPickT rfl rfl rfl | exact cPickF rfl rfl rfl | exact cNot rfl rfl | exact cLss rfl rfl rfl | exact cGtr rfl rfl rfl | exact cGeq rfl rfl rfl | exact cEql rfl rfl rfl | exact cNeq rfl rfl rfl | exact cExtract rfl rfl rfl
  intro a w11 hF hb
  have hBs := hB.size
  replace hB := hB.trans (hb.mono hB.size)
  try (refine wpList_nil ?_)
  repeat with_reducible first | refine wp_seq ?_ | refine nThen ?_ | refine wp_skip ?_ | refine wp_ret ?_ | refine rThen ?_
  replace hp8 := TC.below hp8 hb
  replace hx := hx.below hb
  replace hs7 := hs7.below hb
  replace hy := hy.below hb
  replace hs10 := hs10.below hb
  replace hb1 := hb1.below hb
  obtain ⟨z, ⟨g2, rfl, hg2, hb2⟩, hF⟩ := hF.open (s := 12) rfl
  have hg2 : w10.heap.size ≤ g2 := hg2
  have hne : g1 ≠ g2 := by omega
  refine tlStoreV (Δ := [(2, Ty.ex (.int .i64 at_)), (4, Ty.ex (.int .i64 cut)), (8, Ty.ex p8), (11, Ty.ex (.pointer (some ⟨g1, 0, none⟩))), (12, Ty.ex (.pointer (some ⟨g2, 0, none⟩))), (35, Ty.ex (.agg #[.int .u64 (seed : Int), s10]))]) hF rfl rfl rfl rfl (hF.getEx (s := 33) rfl) hb1 rfl sizeStA (sl_one hs7.sl _) (hF.keep [2, 4, 8, 11, 12, 35]) rfl ?_
  intro w12 hF hb1' hkx
  replace hx := hx.far hkx hb1 (by decide)
  replace hs7 := hs7.keeps hkx (seg_far hs7 hb1 (by decide))
  replace hy := hy.far hkx hb1 (by decide)
  replace hs10 := hs10.keeps hkx (seg_far hs10 hb1 (by decide))
  replace hp8 := TC.far hp8 hkx hb1 rfl
  replace hb2 := hb2.keeps hkx (by simpa using hne.symm)
  replace hB := below_own hB hkx (by intro y hy; simp only [List.mem_singleton] at hy; omega)
  clear hb1
  refine tlStoreV (Δ := [(2, Ty.ex (.int .i64 at_)), (4, Ty.ex (.int .i64 cut)), (8, Ty.ex p8), (11, Ty.ex (.pointer (some ⟨g1, 0, none⟩))), (12, Ty.ex (.pointer (some ⟨g2, 0, none⟩)))]) hF rfl rfl rfl rfl (hF.getEx (s := 35) rfl) hb2 rfl sizeStA (sl_one hs10.sl _) (hF.keep [2, 4, 8, 11, 12]) rfl ?_
  intro w13 hF hb2' hkx
  replace hx := hx.far hkx hb2 (by decide)
  replace hs7 := hs7.keeps hkx (seg_far hs7 hb2 (by decide))
  replace hy := hy.far hkx hb2 (by decide)
  replace hs10 := hs10.keeps hkx (seg_far hs10 hb2 (by decide))
  replace hp8 := TC.far hp8 hkx hb2 rfl
  replace hb1' := hb1'.keeps hkx (by simpa using hne)
  replace hB := below_own hB hkx (by intro y hy; simp only [List.mem_singleton] at hy; omega)
  refine wpList_nil ?_
  replace hb1 : Blk w13 g1 StT #[.int .u64 (seed : Int), s7] := hb1'
  replace hb2 : Blk w13 g2 StT #[.int .u64 (seed : Int), s10] := hb2'
  clear hb1' hb2' hkx
  have hgW1 : W.heap.size ≤ g1 := by omega
  repeat with_reducible first | refine wp_seq ?_ | refine nThen ?_ | refine wp_skip ?_ | refine wp_ret ?_ | refine rThen ?_
  have stx : ∀ {w : World} {s : Value} {Ls : List (List Cl)}, Blk w g1 StT #[.int .u64 (seed : Int), s] → (Ty.tabs 38 27 seed Ls).p w s → (Ty.straP StT 38 27 seed Ls).p w (.pointer (some ⟨g1, 0, none⟩)) := fun h1 h2 => ⟨_, ⟨g1, 0, _, (0, 0), rfl, h1, fun j u h => by simpa using h⟩, h2⟩
  have tx : (Ty.tabs 38 27 seed A).p w13 s7 := ⟨ss, hx.slc, hs7.sl⟩
  have px := stx hb1 tx
  refine' reg_all hF ?_ mixed (by kernel_rfl) ?_
  rotate_left
  · repeat (first
        | exact Line.nil
        | (refine' Line.cons rfl (.no rfl rfl rfl rfl rfl rfl) ?_; rotate_left)
        | ((first | refine' Line.cons rfl (.run rfl rfl ?_) ?_ | refine' Line.cons rfl (.yes rfl rfl rfl rfl ?_) ?_)
           any_goals (first | exact cMove rfl rfl | exact cAssign rfl rfl | exact cNot rfl rfl | exact cStraLA rfl (.l rfl px) | exact cLoadTsA rfl (.t rfl) | exact cLenTA rfl (.t rfl) | exact OpOk.b (c := false) (cNeq rfl rfl rfl) (by rw [decide_eq_true (show (A.length : Int) = 10 by omega)]; rfl) | exact cPickT rfl rfl rfl | exact cPickF rfl rfl rfl | exact cLss rfl rfl rfl | exact cGtr rfl rfl rfl | exact cGeq rfl rfl rfl | exact cEql rfl rfl rfl | exact cNeq rfl rfl rfl | exact cExtract rfl rfl rfl)
           rotate_left))
  intro a w14 hF hb hN
  have hBs := hB.size
  replace hB := hB.trans (hb.mono hB.size)
  dsimp only [ext, Option.getD] at hF
  repeat with_reducible first | refine wp_seq ?_ | refine nThen ?_ | refine wp_skip ?_ | refine wp_ret ?_ | refine rThen ?_
  replace hp8 := TC.below hp8 hb
  replace hx := hx.below hb
  replace hs7 := hs7.below hb
  replace hy := hy.below hb
  replace hs10 := hs10.below hb
  replace hb1 := hb1.below hb
  replace hb2 := hb2.below hb
  refine cond_f hF rfl ?_
  repeat with_reducible first | refine wp_seq ?_ | refine nThen ?_ | refine wp_skip ?_ | refine wp_ret ?_ | refine rThen ?_
  clear k2 px tx
  have tx : (Ty.tabs 38 27 seed A).p w14 s7 := ⟨ss, hx.slc, hs7.sl⟩
  have px := stx hb1 tx
  have ty10 : (Ty.tabs 38 27 seed N).p w14 s10 := ⟨ss2, hy.slc, hs10.sl⟩
  obtain ⟨bn, hbn⟩ : ∃ bn, bn = decide (0 ≤ at_ ∧ at_ < 240) := ⟨_, rfl⟩
  refine wp_mono (Q := fun e a w' => e = .normal ∧ Fr 105 [(2, Ty.ex (.int .i64 at_)), (4, Ty.ex (.int .i64 cut)), (8, Ty.ex p8), (11, Ty.ex (.pointer (some ⟨g1, 0, none⟩))), (12, Ty.ex (.pointer (some ⟨g2, 0, none⟩))), (56, Ty.ex (.bool bn))] a w' ∧ Below W.heap.size W w' ∧ Below w14.heap.size w14 w') ?_ ?_
  · by_cases d0 : at_ < 0
    · rw [show bn = false by rw [hbn]; exact decide_eq_false (by omega)]
      refine' reg_all hF ?_ mixed (by kernel_rfl) ?_
      rotate_left
      · repeat (first
            | exact Line.nil
            | (refine' Line.cons rfl (.no rfl rfl rfl rfl rfl rfl) ?_; rotate_left)
            | ((first | refine' Line.cons rfl (.run rfl rfl ?_) ?_ | refine' Line.cons rfl (.yes rfl rfl rfl rfl ?_) ?_)
               any_goals (first | exact cMove rfl rfl | exact cAssign rfl rfl | exact cNot rfl rfl | exact OpOk.b (c := true) (cGtr rfl rfl rfl) (decide_eq_true (by omega)) | exact OpOk.b (c := false) (cGtr rfl rfl rfl) (decide_eq_false (by omega)) | exact OpOk.b (c := true) (cLss rfl rfl rfl) (decide_eq_true (by omega)) | exact OpOk.b (c := false) (cLss rfl rfl rfl) (decide_eq_false (by omega)) | exact OpOk.b (c := true) (cGeq rfl rfl rfl) (decide_eq_true (by omega)) | exact OpOk.b (c := false) (cGeq rfl rfl rfl) (decide_eq_false (by omega)) | exact cPickT rfl rfl rfl | exact cPickF rfl rfl rfl | exact cLss rfl rfl rfl | exact cGtr rfl rfl rfl | exact cGeq rfl rfl rfl | exact cEql rfl rfl rfl | exact cNeq rfl rfl rfl | exact cExtract rfl rfl rfl)
               rotate_left))
      intro a w15 hF hb hN
      have hBs := hB.size
      replace hB := hB.trans (hb.mono hB.size)
      dsimp only [ext, Option.getD] at hF
      repeat with_reducible first | refine wp_seq ?_ | refine nThen ?_ | refine wp_skip ?_ | refine wp_ret ?_ | refine rThen ?_
      exact ⟨rfl, hF.keep [2, 4, 8, 11, 12, 56], hB, hb⟩
    by_cases d1 : 240 ≤ at_
    · rw [show bn = false by rw [hbn]; exact decide_eq_false (by omega)]
      refine' reg_all hF ?_ mixed (by kernel_rfl) ?_
      rotate_left
      · repeat (first
            | exact Line.nil
            | (refine' Line.cons rfl (.no rfl rfl rfl rfl rfl rfl) ?_; rotate_left)
            | ((first | refine' Line.cons rfl (.run rfl rfl ?_) ?_ | refine' Line.cons rfl (.yes rfl rfl rfl rfl ?_) ?_)
               any_goals (first | exact cMove rfl rfl | exact cAssign rfl rfl | exact cNot rfl rfl | exact OpOk.b (c := true) (cGtr rfl rfl rfl) (decide_eq_true (by omega)) | exact OpOk.b (c := false) (cGtr rfl rfl rfl) (decide_eq_false (by omega)) | exact OpOk.b (c := true) (cLss rfl rfl rfl) (decide_eq_true (by omega)) | exact OpOk.b (c := false) (cLss rfl rfl rfl) (decide_eq_false (by omega)) | exact OpOk.b (c := true) (cGeq rfl rfl rfl) (decide_eq_true (by omega)) | exact OpOk.b (c := false) (cGeq rfl rfl rfl) (decide_eq_false (by omega)) | exact cPickT rfl rfl rfl | exact cPickF rfl rfl rfl | exact cLss rfl rfl rfl | exact cGtr rfl rfl rfl | exact cGeq rfl rfl rfl | exact cEql rfl rfl rfl | exact cNeq rfl rfl rfl | exact cExtract rfl rfl rfl)
               rotate_left))
      intro a w15 hF hb hN
      have hBs := hB.size
      replace hB := hB.trans (hb.mono hB.size)
      dsimp only [ext, Option.getD] at hF
      repeat with_reducible first | refine wp_seq ?_ | refine nThen ?_ | refine wp_skip ?_ | refine wp_ret ?_ | refine rThen ?_
      exact ⟨rfl, hF.keep [2, 4, 8, 11, 12, 56], hB, hb⟩
    rw [show bn = true by rw [hbn]; exact decide_eq_true (by omega)]
    obtain ⟨n, hn⟩ : ∃ n : Nat, at_ = (n : Int) := ⟨at_.toNat, by omega⟩
    rw [hn] at hF ⊢
    obtain ⟨q, hq⟩ : ∃ q, n / 24 = q := ⟨_, rfl⟩
    have hq10 : q < A.length := by omega
    have hLq := gA q (by omega)
    refine' reg_all hF ?_ mixed (by kernel_rfl) ?_
    rotate_left
    · repeat (first
          | exact Line.nil
          | (refine' Line.cons rfl (.no rfl rfl rfl rfl rfl rfl) ?_; rotate_left)
          | ((first | refine' Line.cons rfl (.run rfl rfl ?_) ?_ | refine' Line.cons rfl (.yes rfl rfl rfl rfl ?_) ?_)
             any_goals (first | exact cMove rfl rfl | exact cAssign rfl rfl | exact cNot rfl rfl | exact OpOk.b (c := true) (cGtr rfl rfl rfl) (decide_eq_true (by omega)) | exact OpOk.b (c := false) (cGtr rfl rfl rfl) (decide_eq_false (by omega)) | exact OpOk.b (c := true) (cLss rfl rfl rfl) (decide_eq_true (by omega)) | exact OpOk.b (c := false) (cLss rfl rfl rfl) (decide_eq_false (by omega)) | exact OpOk.b (c := true) (cGeq rfl rfl rfl) (decide_eq_true (by omega)) | exact OpOk.b (c := false) (cGeq rfl rfl rfl) (decide_eq_false (by omega)) | exact cQuoI (n := 24) (r := q) rfl rfl rfl (by omega) (by omega) (by omega) | exact cStraLA rfl (.l rfl px) | exact cLoadTsA rfl (.t rfl) | exact cIdxTA (k := q) rfl (.t rfl) rfl hq10 | exact cTabLA rfl (.t rfl) | exact cLoadSelC rfl rfl | exact cLenH rfl (.t rfl) (Ty.sl_isSl _ _ _) Tryd.underlying36 | exact OpOk.b (c := true) (cEql rfl rfl rfl) (decide_eq_true (by omega)) | exact cPickT rfl rfl rfl | exact cPickF rfl rfl rfl | exact cLss rfl rfl rfl | exact cGtr rfl rfl rfl | exact cGeq rfl rfl rfl | exact cEql rfl rfl rfl | exact cNeq rfl rfl rfl | exact cExtract rfl rfl rfl)
             rotate_left))
    intro a w15 hF hb hN
    have hBs := hB.size
    replace hB := hB.trans (hb.mono hB.size)
    dsimp only [ext, Option.getD] at hF
    repeat with_reducible first | refine wp_seq ?_ | refine nThen ?_ | refine wp_skip ?_ | refine wp_ret ?_ | refine rThen ?_
    exact ⟨rfl, hF.keep [2, 4, 8, 11, 12, 56], hB, hb⟩
  clear hF hB
  rintro e a w15 ⟨rfl, hF, hB, hb⟩
  repeat with_reducible first | refine wp_seq ?_ | refine nThen ?_ | refine wp_skip ?_ | refine wp_ret ?_ | refine rThen ?_
  refine wp_mono (Q := fun e a w' => e = .normal ∧ ∃ A1 : List (List Cl), A1.length = 10 ∧ (∀ k, k < 10 → (A1.getD k []).length = 24) ∧ Fr 105 [(4, Ty.ex (.int .i64 cut)), (11, Ty.ex (.pointer (some ⟨g1, 0, none⟩))), (12, Ty.ex (.pointer (some ⟨g2, 0, none⟩)))] a w' ∧ Below W.heap.size W w' ∧ Blk w' g1 StT #[.int .u64 (seed : Int), s7] ∧ Blk w' g2 StT #[.int .u64 (seed : Int), s10] ∧ (Ty.tabs 38 27 seed A1).p w' s7 ∧ (Ty.tabs 38 27 seed N).p w' s10) ?_ ?_
  · by_cases hin : 0 ≤ at_ ∧ at_ < 240
    rotate_left
    · rw [show bn = false by rw [hbn]; exact decide_eq_false hin] at hF
      refine cond_f hF rfl ?_
      repeat with_reducible first | refine wp_seq ?_ | refine nThen ?_ | refine wp_skip ?_ | refine wp_ret ?_ | refine rThen ?_
      exact ⟨rfl, A, by omega, gA, hF.keep [4, 11, 12], hB, hb1.below hb, hb2.below hb, (Ty.tabs 38 27 seed A).below tx hb, (Ty.tabs 38 27 seed N).below ty10 hb⟩
    rw [show bn = true by rw [hbn]; exact decide_eq_true hin] at hF
    obtain ⟨n, hn⟩ : ∃ n : Nat, at_ = (n : Int) := ⟨at_.toNat, by omega⟩
    rw [hn] at hF
    obtain ⟨q, hq⟩ : ∃ q, n / 24 = q := ⟨_, rfl⟩
    obtain ⟨r, hr⟩ : ∃ r, n % 24 = r := ⟨_, rfl⟩
    have hq10 : q < A.length := by omega
    have hr24 : r < 24 := by omega
    have hLq := gA q (by omega)
    have hrm : (n : Int).tmod 24 = (r : Int) := by rw [Int.tmod_eq_emod_of_nonneg (by omega)]; omega
    refine cond_t hF rfl ?_
    repeat with_reducible first | refine wp_seq ?_ | refine nThen ?_ | refine wp_skip ?_ | refine wp_ret ?_ | refine rThen ?_
    replace hp8 := TC.below hp8 hb
    replace hx := hx.below hb
    replace hs7 := hs7.below hb
    replace hy := hy.below hb
    replace hs10 := hs10.below hb
    replace hb1 := hb1.below hb
    replace hb2 := hb2.below hb
    have hat := st_at hb1
    have hsl7 := hs7.sl
    have hdr := flatT_at seed ss (k := q) (by rw [hx.1]; exact hq10)
    obtain ⟨g, off, cap, eu, eS, hsl⟩ : ∃ g off cap, ss.getD q nilS = .slice (some ⟨g, off, none⟩) (A.getD q []).length cap ∧ S q = [g] ∧ SegL w15 27 65 g off (A.getD q []).length cap (flatC (A.getD q [])) := by
      rcases (hx.2.1 q hq10).1.cases with ⟨_, h0, _⟩ | h
      · omega
      · exact h
    rw [eu] at hdr
    generalize A.getD q [] = L at *
    refine' region_ty 10 mixed (by kernel_rfl) hF ?_ ?_
    rotate_left
    · simp only [List.take_succ_cons, List.take_zero]
      repeat (first
          | exact Line.nil
          | (refine' Line.cons rfl (.no rfl rfl rfl rfl rfl rfl) ?_; rotate_left)
          | ((first | refine' Line.cons rfl (.run rfl rfl ?_) ?_ | refine' Line.cons rfl (.yes rfl rfl rfl rfl ?_) ?_)
             any_goals (first | exact cMove rfl rfl | exact cAssign rfl rfl | exact cNot rfl rfl | exact cStP rfl rfl | exact cLoad1 (u := s7) rfl (.l rfl hat) (pts_at _ _) Tryd.underlying29 rfl | exact cQuoI (n := 24) (r := q) rfl rfl rfl (by omega) (by omega) (by omega) | exact cIndexS (k := q) (sz := 2) rfl (.l rfl hsl7) rfl Tryd.underlying29 sizeT46 hq10 (by rw [flatT_len, hx.1]; omega) | exact cFldL46 rfl (Has.c (.t rfl) (fun W v h => at_pre _ _ (by rw [hdr] at h; exact h))) | exact cRowOf46 rfl (.t rfl) | exact cRem rfl rfl rfl (by omega) | exact cLoadCl34 rfl (.l rfl hp8) | exact cPickT rfl rfl rfl | exact cPickF rfl rfl rfl | exact cLss rfl rfl rfl | exact cGtr rfl rfl rfl | exact cGeq rfl rfl rfl | exact cEql rfl rfl rfl | exact cNeq rfl rfl rfl | exact cExtract rfl rfl rfl)
             rotate_left))
    intro a w16 hF hb hN
    have hBs := hB.size
    replace hB := hB.trans (hb.mono hB.size)
    simp only [List.take_succ_cons, List.take_zero, List.drop_succ_cons, List.drop_zero] at hF hN ⊢
    dsimp only [ext, Option.getD] at hF
    rw [hrm] at hF
    replace hx := hx.below hb
    replace hs7 := hs7.below hb
    replace hy := hy.below hb
    replace hs10 := hs10.below hb
    replace hb1 := hb1.below hb
    replace hb2 := hb2.below hb
    replace hsl := hsl.below hb
    refine' tlOp hF rfl rfl rfl ?_ ?_
    rotate_left
    · first | exact cIndexEx (k := r) (sz := 65) rfl rfl rfl Tryd.underlying36 info34 (by omega) | exact cMove rfl rfl | exact cAssign rfl rfl | exact cPickT rfl rfl rfl | exact cPickF rfl rfl rfl | exact cNot rfl rfl | exact cLss rfl rfl rfl | exact cGtr rfl rfl rfl | exact cGeq rfl rfl rfl | exact cEql rfl rfl rfl | exact cNeq rfl rfl rfl | exact cExtract rfl rfl rfl
    intro a w17 hF hb
    have hBs := hB.size
    replace hB := hB.trans (hb.mono hB.size)
    try (refine wpList_nil ?_)
    repeat with_reducible first | refine wp_seq ?_ | refine nThen ?_ | refine wp_skip ?_ | refine wp_ret ?_ | refine rThen ?_
    replace hx := hx.below hb
    replace hs7 := hs7.below hb
    replace hy := hy.below hb
    replace hs10 := hs10.below hb
    replace hb1 := hb1.below hb
    replace hb2 := hb2.below hb
    replace hsl := hsl.below hb
    refine tlStoreAt (Δ := [(4, Ty.ex (.int .i64 cut)), (11, Ty.ex (.pointer (some ⟨g1, 0, none⟩))), (12, Ty.ex (.pointer (some ⟨g2, 0, none⟩)))]) (k := r * 65) hF rfl rfl rfl rfl rfl hsl (by rw [Cl.size]; omega) (by rw [Cl.size]; exact info34) (Cl.one _) (hF.keep [4, 11, 12]) rfl ?_
    intro w18 hF hsl' hk18
    refine wpList_nil ?_
    have hgS : ∀ y ∈ [g], W.heap.size ≤ y := by rw [← eS]; exact fun y hy => (hSlt q hq10 y hy).1
    have hbs := hsl.seg
    replace hB := below_own hB hk18 hgS
    rw [← eS] at hk18
    replace hb1 := hb1.keeps hk18 (blk_apart (hx.2.1 q hq10).1 hb1 (by decide))
    replace hb2 := hb2.keeps hk18 (blk_apart (hx.2.1 q hq10).1 hb2 (by decide))
    rw [show c.a.toList = c.enc from rfl, over_flatC _ _ (by omega)] at hsl'
    have hseg := hsl'.seg
    rw [← eS, ← eu] at hseg
    have hs7' := seg_keepSeg hs7 hk18 (hx.2.1 q hq10).1 (by decide)
    have hs10' := seg_keepSeg hs10 hk18 (hx.2.1 q hq10).1 (by decide)
    have hy' := hy.keeps hk18 fun j hj y hy2 => hap q j hq10 hj y hy2
    have hSl := hx.set hq10 hk18 (X := L.set r c) (by rw [List.length_set]; exact hseg)
    repeat with_reducible first | refine wp_seq ?_ | refine nThen ?_ | refine wp_skip ?_ | refine wp_ret ?_ | refine rThen ?_
    refine ⟨rfl, A.set q (L.set r c), by rw [List.length_set]; exact lA, fun k hk => ?_, hF, hB, hb1, hb2, ⟨ss, hSl, by rw [List.length_set]; exact hs7'.sl⟩, ⟨ss2, hy'.slc, hs10'.sl⟩⟩
    rw [getDL_set A hq10]
    split
    · rw [List.length_set]; exact hLq
    · exact gA k hk
  clear hF hB hb1 hb2 hx hy hs7 hs10 px tx ty10 hp8 hb gA
  rintro e a w20 ⟨rfl, A1, lA1, gA1, hF, hB, hb1, hb2, tx, ty10⟩
  repeat with_reducible first | refine wp_seq ?_ | refine nThen ?_ | refine wp_skip ?_ | refine wp_ret ?_ | refine rThen ?_
  refine' reg_all hF ?_ mixed (by kernel_rfl) ?_
  rotate_left
  · repeat (first
        | exact Line.nil
        | (refine' Line.cons rfl (.no rfl rfl rfl rfl rfl rfl) ?_; rotate_left)
        | ((first | refine' Line.cons rfl (.run rfl rfl ?_) ?_ | refine' Line.cons rfl (.yes rfl rfl rfl rfl ?_) ?_)
           any_goals (first | exact cMove rfl rfl | exact cAssign rfl rfl | exact cNot rfl rfl | exact cPickT rfl rfl rfl | exact cPickF rfl rfl rfl | exact cLss rfl rfl rfl | exact cGtr rfl rfl rfl | exact cGeq rfl rfl rfl | exact cEql rfl rfl rfl | exact cNeq rfl rfl rfl | exact cExtract rfl rfl rfl)
           rotate_left))
  intro a w21 hF hb hN
  have hBs := hB.size
  replace hB := hB.trans (hb.mono hB.size)
  dsimp only [ext, Option.getD] at hF
  repeat with_reducible first | refine wp_seq ?_ | refine nThen ?_ | refine wp_skip ?_ | refine wp_ret ?_ | refine rThen ?_
  replace hb1 := hb1.below hb
  replace hb2 := hb2.below hb
  replace tx := (Ty.tabs 38 27 seed A1).below tx hb
  replace ty10 := (Ty.tabs 38 27 seed N).below ty10 hb
  refine wp_mono (Q := fun e a w' => e = .normal ∧ ∃ (A2 : List (List Cl)) (s : Value), A2.length ≤ 10 ∧ (∀ k, k < A2.length → (A2.getD k []).length = 24) ∧ Fr 105 [(11, Ty.ex (.pointer (some ⟨g1, 0, none⟩))), (12, Ty.ex (.pointer (some ⟨g2, 0, none⟩)))] a w' ∧ Below W.heap.size W w' ∧ Blk w' g1 StT #[.int .u64 (seed : Int), s] ∧ Blk w' g2 StT #[.int .u64 (seed : Int), s10] ∧ (Ty.tabs 38 27 seed A2).p w' s ∧ (Ty.tabs 38 27 seed N).p w' s10) ?_ ?_
  · by_cases d0 : 10 ≤ cut
    · rw [decide_eq_false (show ¬ cut < 10 by omega)] at hF
      refine cond_f hF rfl ?_
      repeat with_reducible first | refine wp_seq ?_ | refine nThen ?_ | refine wp_skip ?_ | refine wp_ret ?_ | refine rThen ?_
      exact ⟨rfl, A1, s7, by omega, fun k hk => gA1 k (by omega), hF.keep [11, 12], hB, hb1, hb2, tx, ty10⟩
    rw [decide_eq_true (show cut < 10 by omega)] at hF
    obtain ⟨m, hm⟩ : ∃ m : Nat, cut = (m : Int) := ⟨cut.toNat, by omega⟩
    rw [hm] at hF
    refine cond_t hF rfl ?_
    repeat with_reducible first | refine wp_seq ?_ | refine nThen ?_ | refine wp_skip ?_ | refine wp_ret ?_ | refine rThen ?_
    obtain ⟨Ad, nd, cd, es⟩ : ∃ Ad nd cd, s7 = .slice Ad nd cd := by obtain ⟨_, _, Ad, cd, h, _⟩ := tx; exact ⟨Ad, _, cd, h⟩
    rw [es] at tx hb1
    obtain ⟨t1, t2, t3, tx2⟩ := tabs_take tx (m := m) (by obtain ⟨_, _, Ad', cd', h, _⟩ := tx; simp only [Value.slice.injEq] at h; omega)
    have hat := st_at hb1
    refine wp_region_lit ?_
    refine' tlOp hF rfl rfl rfl ?_ ?_
    rotate_left
    · first | exact cStP rfl rfl | exact cMove rfl rfl | exact cAssign rfl rfl | exact cPickT rfl rfl rfl | exact cPickF rfl rfl rfl | exact cNot rfl rfl | exact cLss rfl rfl rfl | exact cGtr rfl rfl rfl | exact cGeq rfl rfl rfl | exact cEql rfl rfl rfl | exact cNeq rfl rfl rfl | exact cExtract rfl rfl rfl
    intro a w22 hF hb
    have hBs := hB.size
    replace hB := hB.trans (hb.mono hB.size)
    try (refine wpList_nil ?_)
    repeat with_reducible first | refine wp_seq ?_ | refine nThen ?_ | refine wp_skip ?_ | refine wp_ret ?_ | refine rThen ?_
    replace hb1 := hb1.below hb
    replace hb2 := hb2.below hb
    replace tx2 := (Ty.tabs 38 27 seed _).below tx2 hb
    replace ty10 := (Ty.tabs 38 27 seed N).below ty10 hb
    replace hat := (Ty.at_ StT [_]).below hat hb
    refine' tlOp hF rfl rfl rfl ?_ ?_
    rotate_left
    · first | exact cLoad1 (u := .slice Ad nd cd) rfl (.l rfl hat) (pts_at _ _) Tryd.underlying29 rfl | exact cMove rfl rfl | exact cAssign rfl rfl | exact cPickT rfl rfl rfl | exact cPickF rfl rfl rfl | exact cNot rfl rfl | exact cLss rfl rfl rfl | exact cGtr rfl rfl rfl | exact cGeq rfl rfl rfl | exact cEql rfl rfl rfl | exact cNeq rfl rfl rfl | exact cExtract rfl rfl rfl
    intro a w23 hF hb
    have hBs := hB.size
    replace hB := hB.trans (hb.mono hB.size)
    try (refine wpList_nil ?_)
    repeat with_reducible first | refine wp_seq ?_ | refine nThen ?_ | refine wp_skip ?_ | refine wp_ret ?_ | refine rThen ?_
    replace hb1 := hb1.below hb
    replace hb2 := hb2.below hb
    replace tx2 := (Ty.tabs 38 27 seed _).below tx2 hb
    replace ty10 := (Ty.tabs 38 27 seed N).below ty10 hb
    refine' tlOp hF rfl rfl rfl ?_ ?_
    rotate_left
    · first | exact cMove rfl rfl | exact cAssign rfl rfl | exact cPickT rfl rfl rfl | exact cPickF rfl rfl rfl | exact cNot rfl rfl | exact cLss rfl rfl rfl | exact cGtr rfl rfl rfl | exact cGeq rfl rfl rfl | exact cEql rfl rfl rfl | exact cNeq rfl rfl rfl | exact cExtract rfl rfl rfl
    intro a w24 hF hb
    have hBs := hB.size
    replace hB := hB.trans (hb.mono hB.size)
    try (refine wpList_nil ?_)
    repeat with_reducible first | refine wp_seq ?_ | refine nThen ?_ | refine wp_skip ?_ | refine wp_ret ?_ | refine rThen ?_
    replace hb1 := hb1.below hb
    replace hb2 := hb2.below hb
    replace tx2 := (Ty.tabs 38 27 seed _).below tx2 hb
    replace ty10 := (Ty.tabs 38 27 seed N).below ty10 hb
    refine' tlOp hF rfl rfl rfl ?_ ?_
    rotate_left
    · first | exact cSliceHiA (k := m) (sz := 2) rfl rfl rfl Tryd.underlying29 sizeT46 (by omega) t2 t3 | exact cMove rfl rfl | exact cAssign rfl rfl | exact cPickT rfl rfl rfl | exact cPickF rfl rfl rfl | exact cNot rfl rfl | exact cLss rfl rfl rfl | exact cGtr rfl rfl rfl | exact cGeq rfl rfl rfl | exact cEql rfl rfl rfl | exact cNeq rfl rfl rfl | exact cExtract rfl rfl rfl
    intro a w25 hF hb
    have hBs := hB.size
    replace hB := hB.trans (hb.mono hB.size)
    try (refine wpList_nil ?_)
    repeat with_reducible first | refine wp_seq ?_ | refine nThen ?_ | refine wp_skip ?_ | refine wp_ret ?_ | refine rThen ?_
    replace hb1 := hb1.below hb
    replace hb2 := hb2.below hb
    replace tx2 := (Ty.tabs 38 27 seed _).below tx2 hb
    replace ty10 := (Ty.tabs 38 27 seed N).below ty10 hb
    refine' tlOp hF rfl rfl rfl ?_ ?_
    rotate_left
    · first | exact cStP rfl rfl | exact cMove rfl rfl | exact cAssign rfl rfl | exact cPickT rfl rfl rfl | exact cPickF rfl rfl rfl | exact cNot rfl rfl | exact cLss rfl rfl rfl | exact cGtr rfl rfl rfl | exact cGeq rfl rfl rfl | exact cEql rfl rfl rfl | exact cNeq rfl rfl rfl | exact cExtract rfl rfl rfl
    intro a w26 hF hb
    have hBs := hB.size
    replace hB := hB.trans (hb.mono hB.size)
    try (refine wpList_nil ?_)
    repeat with_reducible first | refine wp_seq ?_ | refine nThen ?_ | refine wp_skip ?_ | refine wp_ret ?_ | refine rThen ?_
    replace hb1 := hb1.below hb
    replace hb2 := hb2.below hb
    replace tx2 := (Ty.tabs 38 27 seed _).below tx2 hb
    replace ty10 := (Ty.tabs 38 27 seed N).below ty10 hb
    refine tlStoreF (k := 1) (v := .slice Ad m cd) (Δ := [(11, Ty.ex (.pointer (some ⟨g1, 0, none⟩))), (12, Ty.ex (.pointer (some ⟨g2, 0, none⟩)))]) hF rfl rfl rfl rfl (hF.getEx (s := 73) rfl) hb1 (by simp [Value.cells]) sizeTLA (by simp [Value.cells, Value.oneCell']) (hF.keep [11, 12]) rfl ?_
    intro w27 hF hb1' hk27
    refine wpList_nil ?_
    replace tx2 := (Ty.tabs 38 27 seed _).far tx2 hk27 hb1 rfl
    replace ty10 := (Ty.tabs 38 27 seed N).far ty10 hk27 hb1 rfl
    replace hb2 := hb2.keeps hk27 (by simpa using hne.symm)
    replace hB := below_own hB hk27 (by intro y hy; simp only [List.mem_singleton] at hy; omega)
    replace hb1' : Blk w27 g1 StT #[.int .u64 (seed : Int), .slice Ad m cd] := hb1'
    repeat with_reducible first | refine wp_seq ?_ | refine nThen ?_ | refine wp_skip ?_ | refine wp_ret ?_ | refine rThen ?_
    have hlt : (A1.take m).length = m := by rw [List.length_take]; omega
    exact ⟨rfl, A1.take m, .slice Ad m cd, by omega, fun k hk => by rw [show (A1.take m).getD k [] = A1.getD k [] by simp [List.getD, show k < m by omega]]; exact gA1 k (by omega), hF, hB, hb1', hb2, tx2, ty10⟩
  clear hF hB hb1 hb2 tx ty10
  rintro e a w30 ⟨rfl, A2, s, lA2, gA2, hF, hB, hb1, hb2, tx, ty10⟩
  repeat with_reducible first | refine wp_seq ?_ | refine nThen ?_ | refine wp_skip ?_ | refine wp_ret ?_ | refine rThen ?_
  replace hF := hF.as hF (s := 11) (σ := Ty.straP StT 38 27 seed A2) rfl (fun v hv => by
    have hv : v = .pointer (some ⟨g1, 0, none⟩) := hv
    subst hv
    exact ⟨_, ⟨g1, 0, _, (0, 0), rfl, hb1, fun j u h => by simpa using h⟩, tx⟩)
  replace hF := hF.as hF (s := 12) (σ := Ty.straP StT 38 27 seed N) rfl (fun v hv => by
    have hv : v = .pointer (some ⟨g2, 0, none⟩) := hv
    subst hv
    exact ⟨_, ⟨g2, 0, _, (0, 0), rfl, hb2, fun j u h => by simpa using h⟩, ty10⟩)
  clear hb1 hb2 tx ty10
  have hGN := goodSt_get gN
  have sA := strataOf17_ty seed A2 (by omega) (fun k hk => by rw [gA2 k hk]; omega)
  have sN := strataOf17_ty seed N (by omega) (fun k hk => by rw [hGN.2 k (by omega)]; omega)
  have hGA := sgood_ty seed A2 (by omega)
  have hGR := rsgood_ty seed A2 (by omega)
  obtain ⟨dd, ee, d1, d2⟩ : ∃ dd ee : Int, Fn2 Tryd.prog 11 (Ty.stra 38 27 seed A2) (Ty.stra 38 27 seed N) (Ty.tup [Ty.ex (.int .i64 dd), Ty.ex (.int .i64 ee)]) ∧ Fn2 Tryd.prog 12 (Ty.stra 72 114 seed A2) (Ty.stra 72 114 seed N) (Ty.tup [Ty.ex (.int .i64 dd), Ty.ex (.int .i64 ee)]) := by
    cases gd : goodSt A2 with
    | true => exact ⟨_, _, differ_ty seed A2 N hsd gd gN, rdiffer_ty seed A2 N hsd gd gN⟩
    | false => exact ⟨_, _, differ_bad seed seed A2 N (by omega) (by omega) (by rw [gd]; rfl), rdiffer_bad seed seed A2 N (by omega) (by omega) (by rw [gd]; rfl)⟩
  generalize goodSt A2 = gb at *
  refine' reg_all hF ?_ mixed (by kernel_rfl) ?_
  rotate_left
  · repeat (first
        | exact Line.nil
        | (refine' Line.cons rfl (.no rfl rfl rfl rfl rfl rfl) ?_; rotate_left)
        | ((first | refine' Line.cons rfl (.run rfl rfl ?_) ?_ | refine' Line.cons rfl (.yes rfl rfl rfl rfl ?_) ?_)
           any_goals (first | exact cMove rfl rfl | exact cAssign rfl rfl | exact cNot rfl rfl | exact cLoadStA rfl (.t rfl) | exact cCallH2 rfl (.t rfl) (.t rfl) d1 | exact cPickT rfl rfl rfl | exact cPickF rfl rfl rfl | exact cLss rfl rfl rfl | exact cGtr rfl rfl rfl | exact cGeq rfl rfl rfl | exact cEql rfl rfl rfl | exact cNeq rfl rfl rfl | exact cExtract rfl rfl rfl)
           rotate_left))
  intro a w31 hF hb hN
  have hBs := hB.size
  replace hB := hB.trans (hb.mono hB.size)
  dsimp only [ext, Option.getD] at hF
  repeat with_reducible first | refine wp_seq ?_ | refine nThen ?_ | refine wp_skip ?_ | refine wp_ret ?_ | refine rThen ?_
  refine' reg_all hF ?_ mixed (by kernel_rfl) ?_
  rotate_left
  · repeat (first
        | exact Line.nil
        | (refine' Line.cons rfl (.no rfl rfl rfl rfl rfl rfl) ?_; rotate_left)
        | ((first | refine' Line.cons rfl (.run rfl rfl ?_) ?_ | refine' Line.cons rfl (.yes rfl rfl rfl rfl ?_) ?_)
           any_goals (first | exact cMove rfl rfl | exact cAssign rfl rfl | exact cNot rfl rfl | exact cLoadStA rfl (.t rfl) | exact cCallH1 rfl (.t rfl) sA | exact cCallH1 rfl (.t rfl) sN | exact cCallH2 rfl (.t rfl) (.t rfl) d2 | exact cPickT rfl rfl rfl | exact cPickF rfl rfl rfl | exact cLss rfl rfl rfl | exact cGtr rfl rfl rfl | exact cGeq rfl rfl rfl | exact cEql rfl rfl rfl | exact cNeq rfl rfl rfl | exact cExtract rfl rfl rfl)
           rotate_left))
  intro a w32 hF hb hN
  have hBs := hB.size
  replace hB := hB.trans (hb.mono hB.size)
  dsimp only [ext, Option.getD] at hF
  repeat with_reducible first | refine wp_seq ?_ | refine nThen ?_ | refine wp_skip ?_ | refine wp_ret ?_ | refine rThen ?_
  refine' reg_all hF ?_ mixed (by kernel_rfl) ?_
  rotate_left
  · repeat (first
        | exact Line.nil
        | (refine' Line.cons rfl (.no rfl rfl rfl rfl rfl rfl) ?_; rotate_left)
        | ((first | refine' Line.cons rfl (.run rfl rfl ?_) ?_ | refine' Line.cons rfl (.yes rfl rfl rfl rfl ?_) ?_)
           any_goals (first | exact cMove rfl rfl | exact cAssign rfl rfl | exact cNot rfl rfl | exact OpOk.b (c := true) (cEql rfl rfl rfl) (decide_eq_true rfl) | exact OpOk.b (c := true) (cEqlBoolP rfl rfl rfl Tryd.underlying4) (by cases gb <;> rfl) | exact cLoadStA rfl (.t rfl) | exact cCallH1 rfl (.t rfl) sA | exact cCallH1 rfl (.t rfl) hGA | exact cCallH1 rfl (.t rfl) hGR | exact cPickT rfl rfl rfl | exact cPickF rfl rfl rfl | exact cLss rfl rfl rfl | exact cGtr rfl rfl rfl | exact cGeq rfl rfl rfl | exact cEql rfl rfl rfl | exact cNeq rfl rfl rfl | exact cExtract rfl rfl rfl)
           rotate_left))
  intro a w33 hF hb hN
  have hBs := hB.size
  replace hB := hB.trans (hb.mono hB.size)
  dsimp only [ext, Option.getD] at hF
  repeat with_reducible first | refine wp_seq ?_ | refine nThen ?_ | refine wp_skip ?_ | refine wp_ret ?_ | refine rThen ?_
  refine ret1 hF rfl rfl fun z hz => ?_
  exact ⟨by rw [show z = .bool true from hz], hB⟩
end Go.Proofs.YtgmeagkolahkoaaDoor

/- From a row's reading of an argument to what a walk takes: slices of bytes; whole numbers. -/
namespace Go.Proofs.YtgmeagkolahkoaaDoor
open Go.RowKit Go.ChangeShapes Go.WideShapes

theorem nat_of_wf {k : IntKind} {n : Int} (h : (Lit.int k n).wf = true) : k.min ≤ n ∧ n ≤ k.max := by
  simpa [Lit.wf] using h

end Go.Proofs.YtgmeagkolahkoaaDoor

/- From a row's reading of an argument to what a walk takes: whole numbers in a slice; sums of thirty-two bytes. -/
namespace Go.Proofs.YtgmeagkolahkoaaDoor
open Go.RowKit Go.ChangeShapes Go.WideShapes

theorem row_ints {H : Type} {enc : TypeId × Value → H} {P : Program} {W : World} {sp : Nat → Bool} {t e : TypeId} {a : Option Addr} {len cap : Nat} {d : DataW H} {ps : List MemPlace}
    (ht : P.underlying t = some (.slice e)) (he : P.underlying e = some (.int .i64)) (hc : P.cellsOf e = 1) (h : DataW.Trod enc P W 0 sp true t (.slice a len cap) d ps) :
    ∃ l : List Int, l.length = len ∧ len ≤ cap ∧ len ≤ maxLen ∧ Rd W a (l.map (Value.int .i64)) ∧ (a = none → len = 0) ∧ ∀ x ∈ l, -9223372036854775808 ≤ x ∧ x ≤ 9223372036854775807 := by
  obtain ⟨fuel, hf⟩ := h
  rcases open_ints ht he hc hf with ⟨hcs, _⟩ | ⟨x, l, c, zs, hcs, _, hl, hm, hz, _, hcell, hwz⟩
  · simp [Value.cells] at hcs
    obtain ⟨rfl, rfl, rfl⟩ := hcs
    exact ⟨[], rfl, Nat.le_refl _, Nat.zero_le _, Rd.nil _ _, fun _ => rfl, by simp⟩
  · simp [Value.cells] at hcs
    obtain ⟨rfl, rfl, rfl⟩ := hcs
    have hlz : len ≤ zs.length := by rw [hz]; split <;> omega
    refine ⟨zs.take len, by simp; omega, hl, by omega, ?_, by simp, ?_⟩
    · intro j v hv
      refine ⟨x, rfl, ?_⟩
      rw [List.getElem?_map, List.getElem?_take] at hv
      split at hv
      · rename_i hj
        have hjz : j < zs.length := by omega
        rw [List.getElem?_eq_getElem hjz] at hv
        simp only [Option.map_some, Option.some.injEq] at hv
        rw [hcell j hjz, ← hv]
        simp [List.getD, List.getElem?_eq_getElem hjz]
      · simp at hv
    · intro y hy
      have := nat_of_wf (hwz y (List.mem_of_mem_take hy))
      simpa [IntKind.min, IntKind.max, IntKind.signed, IntKind.bits] using this

theorem take1_drop {α : Type} {l : List α} {i : Nat} {v : α} (h : (l.drop i).take 1 = [v]) : l[i]? = some v := by
  have h1 : ((l.drop i).take 1)[0]? = some v := by rw [h]; rfl
  rw [List.getElem?_take, if_pos (by omega), List.getElem?_drop] at h1
  simpa using h1

/-- Thirty-two cells that read as an array of bytes are a sum. -/
theorem sm_of_cells {H : Type} {enc : TypeId × Value → H} {P : Program} {W : World} {base : Nat} {sp : Nat → Bool} {held : Bool} {t e : TypeId} {fuel : Nat} {cs : List Value} {x : DataW H × List MemPlace}
    (ht : P.underlying t = some (.array 32 e)) (he : P.underlying e = some (.int .u8)) (hC : P.cellsOf t = 32) (hc : P.cellsOf e = 1) (h : DataW.trod enc P W base sp held fuel t cs = some x) :
    ∃ s : Sm, cs = s.enc := by
  obtain ⟨xs, m, _, _, hlen, hxl, hi⟩ := DataW.trod_array ht h
  rw [hC] at hlen
  have hcell : ∀ i, i < 32 → ∃ n : Nat, cs[i]? = some (bv n) ∧ n < 256 := fun i hlt => by
    have h1 := hi i hlt
    rw [hc, Nat.mul_one, List.getElem?_eq_getElem (by omega)] at h1
    obtain ⟨n, h2, _, hw⟩ := DataW.trod_int he h1
    have hb := nat_of_wf hw
    simp only [IntKind.min, IntKind.max, IntKind.signed, IntKind.bits] at hb
    obtain ⟨k, rfl⟩ := Int.eq_ofNat_of_zero_le (show 0 ≤ n by simpa using hb.1)
    exact ⟨k, take1_drop h2, by have := hb.2; simp at this; omega⟩
  let f : Value → Nat := fun v => match v with | .int _ n => n.toNat | _ => 0
  have hfb : ∀ n : Nat, f (bv n) = n := fun n => by show (n : Int).toNat = n; omega
  refine ⟨⟨cs.map f, by simpa using hlen, ?_⟩, ?_⟩
  · intro b hb
    obtain ⟨v, hv, rfl⟩ := List.mem_map.1 hb
    obtain ⟨i, hiv⟩ := List.getElem?_of_mem hv
    obtain ⟨n, h1, h2⟩ := hcell i (by have := (List.getElem?_eq_some_iff.1 hiv).1; omega)
    rw [hiv] at h1
    injection h1 with h1
    rw [h1, hfb]; exact h2
  · unfold Sm.enc
    apply List.ext_getElem?
    intro i
    rw [List.getElem?_map, List.getElem?_map]
    by_cases hlt : i < 32
    · obtain ⟨n, h1, _⟩ := hcell i hlt
      rw [h1]
      simp only [Option.map_some, hfb]
    · rw [List.getElem?_eq_none (by omega)]; rfl
end Go.Proofs.YtgmeagkolahkoaaDoor

/- A row's reading of a cell.Cell, opened. -/
namespace Go.Proofs.YtgmeagkolahkoaaDoor
open Go.RowKit Go.ChangeShapes Go.WideShapes

theorem cells_joinD {l : List Value} {v : Value} {K C : List Value} (h0 : (l.drop 0).take 1 = [v]) (h1 : (l.drop 1).take 32 = K) (h2 : (l.drop 33).take 32 = C) (hl : l.length = 65) : l = [v] ++ K ++ C := by
  subst h1 h2
  rw [← h0, List.drop_zero]
  have e1 : l = l.take 1 ++ l.drop 1 := (List.take_append_drop 1 l).symm
  have e2 : l.drop 1 = (l.drop 1).take 32 ++ (l.drop 1).drop 32 := (List.take_append_drop 32 _).symm
  have e3 : (l.drop 1).drop 32 = (l.drop 33).take 32 := by
    rw [List.drop_drop, List.take_of_length_le (by simp; omega)]
  rw [e3] at e2
  rw [List.append_assoc, ← e2, ← e1]

set_option maxRecDepth 100000 in
theorem row_cellD {H : Type} {enc : TypeId × Value → H} {W : World} {sp : Nat → Bool} {r : Reach} {b0 : Nat} {v : Value} {d : DataW H} {ps : List MemPlace}
    (hv : Value.okWide Tryd.prog W r b0 27 v) (h : DataW.Trod enc Tryd.prog W 0 sp true 27 v d ps) : ∃ c : Cl, v = .agg c.a := by
  obtain ⟨cs, rfl, hsz⟩ := okWide_struct Tryd.underlying27 hv
  have hC : Tryd.prog.cellsOf 27 = 65 := by kernel_rfl
  have k2 : Tryd.prog.cellsOf 2 = 1 := by kernel_rfl
  have k27 : Tryd.prog.cellsOf 25 = 32 := by kernel_rfl
  obtain ⟨fuel, hf⟩ := h
  obtain ⟨y0, y1, y2, n, _, _, t0, t1, t2⟩ := Go.Deep.trod_struct3 Tryd.underlying27 hf
  obtain ⟨n0, f0, _, _⟩ := DataW.trod_int Tryd.underlying2 t0
  obtain ⟨K, hK⟩ := sm_of_cells Tryd.underlying25 Tryd.underlying5 (by kernel_rfl) (by kernel_rfl) t1
  obtain ⟨C, hCk⟩ := sm_of_cells Tryd.underlying25 Tryd.underlying5 (by kernel_rfl) (by kernel_rfl) t2
  refine ⟨⟨n0, K, C⟩, ?_⟩
  simp only [Value.cells, k2, k27] at f0 hK hCk
  congr 1
  apply Array.ext'
  rw [cells_joinD f0 hK hCk (by simpa using hsz.trans hC)]
  simp [Cl.a, Cl.enc, Sm.enc]
end Go.Proofs.YtgmeagkolahkoaaDoor

/- The statement StrataRawSaid is proved here: for every input the law tallyman/tallymanlaw17.StrataRaw returns true, and each argument reads as before; the library's table reads as its initialiser lays it. (strata of any cells: whether they may be, how unlike, is as the document says.) -/
namespace Go.Proofs.YtgmeagkolahkoaaDoor.strataRaw
open Go.ChangeShapes Go.WideShapes Go.ChangeAt Go.RowKit
set_option linter.unusedVariables false
theorem own : ownKnob Tryd.prog.godebug = none := by kernel_rfl
theorem laidOut : laidOutB Tryd.prog = true := by kernel_rfl
theorem gT : Tryd.prog.globalNamed "math/bits.deBruijn64tab" = some 0 := by kernel_rfl
theorem gTType : (Tryd.prog.globals[0]?).map (·.type) = some 130 := by kernel_rfl
theorem cellsE : Tryd.prog.cellsOf 5 = 1 := by kernel_rfl
theorem cellsT : Tryd.prog.cellsOf 130 = 64 := by kernel_rfl
def tabZ : List Int := Lib.deBruijn64tab.map Int.ofNat
def z65 : Value := .agg (Cl.mk 0 Sm.zero Sm.zero).a
noncomputable def laidWorld (os : Os) : World :=
  { World.holding Tryd.prog os ⟨#[], #[], []⟩ with heap := (World.holding Tryd.prog os ⟨#[], #[], []⟩).heap.modify 0 fun
      | .cells _ t frozen => .cells (tabZ.map fun z => Value.int .u8 z).toArray t frozen
      | o => o }
theorem laid_met (os : Os) (args : Array Value) : laidMet Tryd.prog Rows.strataRawRow.laid ((laidWorld os).forCall (fun _ _ => 0) ⟨#[], args, []⟩).memory :=
  laidMet_of_run' 8 (by kernel_rfl) (by kernel_rfl)
theorem witness_row (os : Os) {H : Type} (enc : TypeId × Value → H) :
    (OpenSpec.ofChange Rows.strataRawSpec).preRow enc Tryd.prog Tryd.f3 Rows.strataRawRow.domain false Rows.strataRawRow.laid ((laidWorld os).forCall (fun _ _ => 0) ⟨#[], #[.int .u64 0, .slice none 0 0, .int .i64 0, z65, .int .i64 0], []⟩).memory #[.int .u64 0, .slice none 0 0, .int .i64 0, z65, .int .i64 0] := by
  have hw : (DataW.whole enc Tryd.prog ((laidWorld os).forCall (fun _ _ => 0) ⟨#[], #[.int .u64 0, .slice none 0 0, .int .i64 0, z65, .int .i64 0], []⟩).memory Tryd.f3.params.toList (OpenSpec.ofChange Rows.strataRawSpec).vars false (#[.int .u64 0, .slice none 0 0, .int .i64 0, z65, .int .i64 0] : Array Value).toList 8).map (fun x => (x.1, x.2.1)) =
      some ([.lit (.int .u64 0), .nil, .lit (.int .i64 0), .agg [.lit (.int .i64 0), .agg (List.replicate 32 (.lit (.int .u8 0))), .agg (List.replicate 32 (.lit (.int .u8 0)))], .lit (.int .i64 0)], []) := by kernel_rfl
  obtain ⟨⟨x1, x2, x3⟩, hx, hx1⟩ := Option.map_eq_some_iff.1 hw
  simp only [Prod.mk.injEq] at hx1
  obtain ⟨rfl, rfl⟩ := hx1
  exact OpenSpec.preRow_of_cond 8 hx (by kernel_rfl) (fun k hk => by cases hk) (by kernel_rfl) (laid_met os _)
theorem tab_ok {W : World} (h : Lib.TabIs Tryd.prog W "math/bits.deBruijn64tab" .u8 tabZ) : TabOk W := by
  refine ⟨⟨0, 0, none⟩, rfl, fun j v hv => ?_, by simp [Lib.deBruijn64tab]⟩
  have hj : j < Lib.deBruijn64tab.length := by have := (List.getElem?_eq_some_iff.1 hv).1; rwa [List.length_map] at this
  have hc := h.cell gT j (by unfold tabZ; rw [List.length_map]; exact hj)
  refine ⟨_, rfl, ?_⟩
  rw [show (⟨0, 0, none⟩ : Addr).add j = ⟨0, j, none⟩ by simp [Addr.add_lit], hc]
  rw [← hv]
  unfold tabZ
  generalize Lib.deBruijn64tab = L at *
  simp [List.getD, List.getElem?_eq_getElem hj, bv]
set_option maxRecDepth 100000 in
set_option maxHeartbeats 2000000 in
theorem lifted (os : Os) (started : os.Started) (H : Type) (enc : TypeId × Value → H) (F : Stop.Interp) :
    ReturnsInHanded {} Tryd.checked os 3 .any ((OpenSpec.ofChange Rows.strataRawSpec).preRow enc Tryd.prog Tryd.f3 Rows.strataRawRow.domain false Rows.strataRawRow.laid) (((OpenSpec.ofChange Rows.strataRawSpec).at F).post enc Tryd.prog Tryd.f3 false true false false) := by
  refine returnsInHanded_of_row (C := Tryd.checked) (s := OpenSpec.ofChange Rows.strataRawSpec) own started (by kernel_rfl) Tryd.func3
    (witness_row_at (enc := enc) (C := Tryd.checked) false (laidWorld os) #[.int .u64 0, .slice none 0 0, .int .i64 0, z65, .int .i64 0] rfl (by kernel_rfl) (by kernel_rfl) (by kernel_rfl) (witness_row os enc)) ?_
  intro W base args ds gs before hval0 hW _ hcond0 hsz0 hL hsh _
  have hval : ∀ (j : Nat) t v, Tryd.f3.params[j]? = some t → args[j]? = some v → Value.okWide Tryd.prog W .any base t v := hval0
  have hW' := hW
  obtain ⟨p, q, hA0, hV, rfl, _, _⟩ := hW
  have hA : DataW.TrodAll enc Tryd.prog W 0 (fun _ => true) true Tryd.f3.params.toList args.toList ds p := hA0
  rw [Tryd.params3] at hA hval
  obtain ⟨v0, vs0, d0, ds0, p0, q0, hargs, rfl, rfl, h0, r0⟩ := trodAll_cons hA
  obtain ⟨v1, vs1, d1, ds1, p1, q1, rfl, rfl, rfl, h1, r1⟩ := trodAll_cons r0
  obtain ⟨v2, vs2, d2, ds2, p2, q2, rfl, rfl, rfl, h2, r2⟩ := trodAll_cons r1
  obtain ⟨v3, vs3, d3, ds3, p3, q3, rfl, rfl, rfl, h3, r3⟩ := trodAll_cons r2
  obtain ⟨v4, vs4, d4, ds4, p4, q4, rfl, rfl, rfl, h4, r4⟩ := trodAll_cons r3
  obtain ⟨rfl, rfl, rfl⟩ := trodAll_nil r4
  obtain rfl : args = #[v0, v1, v2, v3, v4] := by cases args; simp_all
  obtain ⟨rfl, rfl⟩ := trodVars_none hV
  obtain ⟨z0, rfl, rfl, rfl, w0⟩ := open_int Tryd.underlying22 (hval 0 22 v0 rfl rfl) h0
  have b0 := nat_of_wf w0
  simp only [IntKind.min, IntKind.max, IntKind.signed, IntKind.bits] at b0
  obtain ⟨a0, rfl⟩ := Int.eq_ofNat_of_zero_le (show 0 ≤ z0 by simpa using b0.1)
  obtain ⟨a1, len1, cap1, rfl⟩ := okWide_slice Tryd.underlying23 (hval 1 23 v1 rfl rfl)
  have lt1 : ∀ x ∈ p1, x.block < W.heap.size := by obtain ⟨m, hm⟩ := h1; exact DataW.trod_lt m _ _ _ hm
  obtain ⟨l1, hl1, hlc1, hn1, hr1, hN1, hx1⟩ := row_ints Tryd.underlying23 Tryd.underlying3 (by kernel_rfl) h1
  obtain ⟨a2, rfl, rfl, rfl, w2⟩ := open_int Tryd.underlying3 (hval 2 3 v2 rfl rfl) h2
  have lt3 : ∀ x ∈ p3, x.block < W.heap.size := by obtain ⟨m, hm⟩ := h3; exact DataW.trod_lt m _ _ _ hm
  obtain ⟨c3, rfl⟩ := row_cellD (hval 3 27 v3 rfl rfl) h3
  obtain ⟨a4, rfl, rfl, rfl, w4⟩ := open_int Tryd.underlying3 (hval 4 3 v4 rfl rfl) h4
  have htab : Lib.TabIs Tryd.prog W "math/bits.deBruijn64tab" .u8 tabZ := Lib.tabIs_of_head gT gTType Tryd.underlying130 Tryd.underlying5 cellsE cellsT hL
  clear hA0 hval0 hsz0
  refine (lawStrataRaw_any a0 l1 a2 c3 a4 (by omega) (ints_rdA hl1 hn1 hN1 hr1) (tab_ok htab)).mono fun e W' ⟨he, bel⟩ => ?_
  subst he
  exact ⟨_, rfl, _, _, _, [], _, [], hW', trodAll_mk1 (shut_bool Tryd.underlying4 _), (trodAll_cons_mk (shut_int Tryd.underlying22 w0) (trodAll_cons_mk (Below.trod laidOut (by kernel_rfl) (of_decide_eq_true (by kernel_rfl)) h1 bel lt1) (trodAll_cons_mk (shut_int Tryd.underlying3 w2) (trodAll_cons_mk (Below.trod laidOut (by kernel_rfl) (of_decide_eq_true (by kernel_rfl)) h3 bel lt3) (trodAll_cons_mk (shut_int Tryd.underlying3 w4) trodAll_mk0))))), rfl, bel.frame _, fun h => by cases h⟩
theorem over : Rows.strataRawRow.holds Tryd.pinned (OpenSpec.ofChange Rows.strataRawSpec) :=
  OpenClaim.holds_of_cond 3 Tryd.f3 rfl rfl rfl rfl rfl rfl rfl ⟨rfl, rfl, rfl, rfl, rfl⟩ rfl rfl rfl rfl rfl (by kernel_rfl) Tryd.func3 (by kernel_rfl)
    (of_decide_eq_true (by kernel_rfl)) (by unfold Func.isWrapper; first | (rw [if_pos (by decide +kernel)]; kernel_rfl) | (rw [if_neg (by decide +kernel)]; exact ⟨rfl, rfl⟩))
    (fun os started H enc _ F0 => by rw [OpenClaim.pre_eq_preRow]; exact lifted os started H enc F0)
end Go.Proofs.YtgmeagkolahkoaaDoor.strataRaw
namespace Go.Proofs.YtgmeagkolahkoaaDoor
theorem strataRaw_holds : Rows.StrataRawSaid := strataRaw.over
#print axioms strataRaw_holds
end Go.Proofs.YtgmeagkolahkoaaDoor
