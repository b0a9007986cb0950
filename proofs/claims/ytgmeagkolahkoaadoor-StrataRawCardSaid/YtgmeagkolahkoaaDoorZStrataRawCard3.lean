/- Joined: TabB, SetA, CmpP, Cmp, R1Cmp, SetC, SetD, SetE, TabC, TabD, TabE, TabF, LaysS, SetF, SetG, SetP, PlaceH, TabG, TabH, PlaceI, PlaceJ, PlaceK. -/
import Derived.Lib.Bytealg
import Derived.Lib.BytesEntry
import Derived.Lib.Hide
import Derived.Deep.QuietTactic
import Derived.BigQuiet
import Derived.Laws.MakeOwn
import Derived.Test.YtgmeagkolahkoaaDoorProg
import Derived.Shelf.SlGeneric
import Derived.Shelf.SlSortCmp.NoneTotal
import Derived.Ground.SlsfProg
import Derived.KernelRfl
import Derived.Lib.SlBytesConst
import Derived.Test.YtgmeagkolahkoaaDoorZStrataRawCard2
/- The functions of layer 13 by types, the program's and the document's. -/
namespace Go.Proofs.YtgmeagkolahkoaaDoor
open Go.RowKit

/-- Results of which the first lies in a variable. -/
theorem retCell2 {P : Program} {Γ : Ctx} {N : Nat} {a : Act} {w : World} {fn : Func} {R : Ending → World → Prop} {s s2 : Nat} {ty t : TypeId} {cs : Array Value} {g : Nat} {d : TypeDesc} {v2 : Value} (hF : Fr N Γ a w) (hr : fn.results = #[.cell s ty, .tmp s2]) (hs : look Γ s = some (Ty.ex (.pointer (some ⟨g, 0, none⟩)))) (hs2 : look Γ s2 = some (Ty.ex v2)) (hB : Blk w g t cs)
    (hu : P.underlying ty = some d) (hd : (match d with | .struct _ | .array _ _ => true | _ => false) = true) (hi : (P.info? ty).map (·.size) = some cs.size) (h : R (.returned (.tuple #[.agg cs, v2])) w) : bodyPost P fn R .ret a w := by
  have h1 : a.tmps[s]?.getD undef = .pointer (some ⟨g, 0, none⟩) := by have := hF.getEx hs; simpa [Act.eval, Array.getD_eq_getD_getElem?] using this
  have h2 : a.tmps[s2]?.getD undef = v2 := by have := hF.getEx hs2; simpa [Act.eval, Array.getD_eq_getD_getElem?] using this
  refine bodyPost_ret ?_ hF.defers h
  simp [results, hr, h1, h2, asAddr, run_loadVar_row w g t ty cs (0, 0) d hB hu hd hi]
theorem retCell3 {P : Program} {Γ : Ctx} {N : Nat} {a : Act} {w : World} {fn : Func} {R : Ending → World → Prop} {s s2 s3 : Nat} {ty t : TypeId} {cs : Array Value} {g : Nat} {d : TypeDesc} {v2 v3 : Value} (hF : Fr N Γ a w) (hr : fn.results = #[.cell s ty, .tmp s2, .tmp s3]) (hs : look Γ s = some (Ty.ex (.pointer (some ⟨g, 0, none⟩)))) (hs2 : look Γ s2 = some (Ty.ex v2)) (hs3 : look Γ s3 = some (Ty.ex v3)) (hB : Blk w g t cs)
    (hu : P.underlying ty = some d) (hd : (match d with | .struct _ | .array _ _ => true | _ => false) = true) (hi : (P.info? ty).map (·.size) = some cs.size) (h : R (.returned (.tuple #[.agg cs, v2, v3])) w) : bodyPost P fn R .ret a w := by
  have h1 : a.tmps[s]?.getD undef = .pointer (some ⟨g, 0, none⟩) := by have := hF.getEx hs; simpa [Act.eval, Array.getD_eq_getD_getElem?] using this
  have h2 : a.tmps[s2]?.getD undef = v2 := by have := hF.getEx hs2; simpa [Act.eval, Array.getD_eq_getD_getElem?] using this
  have h3 : a.tmps[s3]?.getD undef = v3 := by have := hF.getEx hs3; simpa [Act.eval, Array.getD_eq_getD_getElem?] using this
  refine bodyPost_ret ?_ hF.defers h
  simp [results, hr, h1, h2, h3, asAddr, run_loadVar_row w g t ty cs (0, 0) d hB hu hd hi]
theorem sumSz (s : Sm) : (Value.agg (u8s s.l)).cells.size = (Value.agg (u8s (List.replicate 32 0))).cells.size := by rw [zero32_size]; exact s.size
theorem clSz (c d : Cl) : (Value.agg c.a).cells.size = d.a.size := by rw [d.size]; exact c.size
set_option maxRecDepth 100000 in
theorem cellOf_ty (x : Sm) : Fn1 Tryd.prog 97 (Ty.ex (.agg (u8s x.l))) (Ty.ex (.agg (u8s (chk x).l))) := by
  refine ⟨fun args w => by kernel_rfl, fun w v hv => ?_⟩
  have hO := sumOf2_ty (e := 64) (τ := Ty.sl 5 1 ([67].map bv)) (σ := Ty.sl 25 32 x.enc) [67] x.l (reads_sl _ _ _) (by rw [x.len]; exact reads_sl _ _ _) (by simp) x.lt (by rw [x.len]; decide)
  have hY : shaL ([67] ++ x.l) = (chk x).l := rfl
  rw [hY] at hO
  generalize chk x = Y at *
  clear hY
  refine enter_ty 7 [Ty.ex (.agg (u8s x.l))] Tryd.func97 rfl (by kernel_rfl) ⟨hv, trivial⟩ fun a hF => ?_
  have hB := Below.refl w.heap.size w
  repeat with_reducible refine wp_seq ?_
  refine' reg_all hF ?_ mixed (by kernel_rfl) ?_
  rotate_left
  · repeat (first
        | exact Line.nil
        | (refine' Line.cons rfl (.new rfl rfl (run_alloc_i infoS) rfl) ?_; rotate_left)
        | ((refine' Line.cons rfl (.run rfl rfl ?_) ?_)
           any_goals exact cBoxSum rfl rfl
           rotate_left))
  intro a w1 hF hb hN
  have hBs := hB.size
  replace hB := hB.trans (hb.mono hB.size)
  dsimp only [ext, Option.getD] at hF
  repeat with_reducible first | refine wp_seq ?_ | refine nThen ?_
  obtain ⟨z, ⟨gx, rfl, hgx, hbx⟩, hF⟩ := hF.open (s := 2) rfl
  refine' region_ty 4 mixed (by kernel_rfl) hF ?_ ?_
  rotate_left
  · simp only [List.take_succ_cons, List.take_zero]
    repeat (first | exact Line.nil | ((refine' Line.cons rfl (.run rfl rfl ?_) ?_); (any_goals (first | exact cBuildV (vs := [.int .u8 67]) rfl (parts1v rfl rfl) Tryd.underlying64 infoU8 rfl (by simp [Value.cells]) (by decide) (by simp [maxLen]) | exact cSliceArr rfl (.t rfl) Tryd.underlying25 sizeU (by simp [maxLen]) | exact cBuildT (τs := [Ty.sl 5 1 ([67].map bv), Ty.sl 25 32 x.enc]) rfl (partsT2 rfl (.t rfl) (.t rfl) (Ty.sl_isSl _ _ _) (Ty.sl_isSl _ _ _)) Tryd.underlying95 infoB rfl | exact cCall1 rfl rfl hO)); rotate_left))
  intro a w2 hF hb hN
  have hBs := hB.size
  replace hB := hB.trans (hb.mono hB.size)
  simp only [List.take_succ_cons, List.take_zero, List.drop_succ_cons, List.drop_zero] at hF hN ⊢
  dsimp only [ext, Option.getD] at hF
  replace hbx := hbx.below hb
  refine tlStoreV (Δ := [(2, Ty.ex (.pointer (some ⟨_, 0, none⟩)))]) hF rfl rfl rfl rfl (hF.getEx (s := 6) rfl) hbx (sumSz Y) ((by show _ = some (u8s _).size; rw [Sm.size]; exact sizeS)) (u8s_one _) (hF.keep [2]) rfl ?_
  intro w3 hF hbx hkx
  refine wpList_nil ?_
  replace hB := below_own hB hkx (by intro y hy; simp only [List.mem_singleton] at hy; omega)
  repeat with_reducible first | refine nThen ?_ | refine wp_ret ?_
  refine retCell hF rfl rfl hbx (Tryd.underlying25) rfl ((by rw [show (Value.agg (u8s Y.l)).cells.size = 32 from Y.size]; exact sizeS)) ?_
  exact ⟨_, rfl, rfl, hB⟩
set_option maxRecDepth 100000 in
theorem check13_ty (x : Sm) : Fn1 Tryd.prog 100 (Ty.ex (.agg (u8s x.l))) (Ty.ex (.agg (u8s (chk x).l))) := by
  refine ⟨fun args w => by kernel_rfl, fun w v hv => ?_⟩
  have hO := r1of_ty (67 :: x.l) (Ty.sl 5 33 (bv 67 :: x.enc)) (by
    have h : (67 :: x.l).length = 33 := by rw [List.length_cons, x.len]
    rw [h]
    exact reads_sl _ _ _) (by
    intro y hy
    rcases List.mem_cons.1 hy with rfl | hy
    · decide
    · exact x.lt y hy) (by rw [List.length_cons, x.len]; decide)
  have hY : shaS (67 :: x.l) = chk x := rfl
  rw [hY] at hO
  generalize chk x = Y at *
  clear hY
  have heP : Enters Tryd.prog 102 := fun args w => by kernel_rfl
  refine enter_ty 7 [Ty.ex (.agg (u8s x.l))] Tryd.func100 rfl (by kernel_rfl) ⟨hv, trivial⟩ fun a hF => ?_
  have hB := Below.refl w.heap.size w
  repeat with_reducible refine wp_seq ?_
  refine' reg_all hF ?_ mixed (by kernel_rfl) ?_
  rotate_left
  · repeat (first
        | exact Line.nil
        | (refine' Line.cons rfl (.new rfl rfl (run_alloc_i infoR) rfl) ?_; rotate_left)
        | ((refine' Line.cons rfl (.run rfl rfl ?_) ?_)
           any_goals exact cBoxSum rfl rfl
           rotate_left))
  intro a w1 hF hb hN
  have hBs := hB.size
  replace hB := hB.trans (hb.mono hB.size)
  dsimp only [ext, Option.getD] at hF
  repeat with_reducible first | refine wp_seq ?_ | refine nThen ?_
  obtain ⟨z, ⟨gx, rfl, hgx, hbx⟩, hF⟩ := hF.open (s := 2) rfl
  have hw1 : w.heap.size ≤ w1.heap.size := hB.size
  have hlt := hbx.lt
  refine' region_ty 2 mixed (by kernel_rfl) hF ?_ ?_
  rotate_left
  · simp only [List.take_succ_cons, List.take_zero]
    repeat (first | exact Line.nil | ((refine' Line.cons rfl (.run rfl rfl ?_) ?_); (any_goals (first | exact cBuildB1 rfl rfl | exact cLoadSum rfl (.t rfl) Tryd.underlying112 sizeR)); rotate_left))
  intro a w2 hF hb hN
  have hBs := hB.size
  replace hB := hB.trans (hb.mono hB.size)
  simp only [List.take_succ_cons, List.take_zero, List.drop_succ_cons, List.drop_zero] at hF hN ⊢
  dsimp only [ext, Option.getD] at hF
  replace hbx := hbx.below hb
  obtain ⟨v5, ⟨S5, hs5, hS5⟩, hF⟩ := hF.open (s := 3) rfl
  refine tlCall rfl rfl rfl (args := #[v5, .agg (u8s x.l)]) ?_ heP (R := fun u w' => (∃ S', Seg w' 5 1 u 33 (bv 67 :: x.enc) S') ∧ Keeps S5 w2 w') ?_ ?_
  · simp only [List.map_toArray, List.map_cons, List.map_nil, hF.getEx (s := 3) rfl, hF.getEx (s := 4) rfl]
  · refine (putsum_any x v5 1 [.int .u8 67] S5 w2 hs5 (by decide)).mono fun e w' ⟨u, h1, ⟨S', h2, _⟩, h3⟩ => ⟨u, h1, ⟨S', h2⟩, h3⟩
  rintro u w3 ⟨⟨S', hs3⟩, hk3⟩
  have hF := ((hF.keep [2]).free hk3 hs5.blocks rfl).put (d := 5) (by decide) (Below.refl _ _) (V := Ty.ex u) rfl
  replace hbx := hbx.keeps hk3 (fun hm => by have := hS5 _ hm; omega)
  replace hB := below_own hB hk3 (fun y hy => Nat.le_trans hw1 (hS5 y hy))
  have hu3 : (Ty.sl 5 33 (bv 67 :: x.enc)).p w3 u := hs3.sl
  refine' tlOp hF rfl rfl rfl ?_ ?_
  rotate_left
  · exact cCallH1 rfl (.l rfl hu3) hO
  intro a w4 hF hb
  have hBs := hB.size
  replace hB := hB.trans (hb.mono hB.size)
  try (refine wpList_nil ?_)
  replace hbx := hbx.below hb
  refine tlStoreV (Δ := [(2, Ty.ex (.pointer (some ⟨_, 0, none⟩)))]) hF rfl rfl rfl rfl (hF.getEx (s := 6) rfl) hbx (sumSz Y) ((by show _ = some (u8s _).size; rw [Sm.size]; exact sizeR)) (u8s_one _) (hF.keep [2]) rfl ?_
  intro w5 hF hbx hkx
  refine wpList_nil ?_
  replace hB := below_own hB hkx (by intro y hy; simp only [List.mem_singleton] at hy; omega)
  repeat with_reducible first | refine nThen ?_ | refine wp_ret ?_
  refine retCell hF rfl rfl hbx (Tryd.underlying112) rfl ((by rw [show (Value.agg (u8s Y.l)).cells.size = 32 from Y.size]; exact sizeR)) ?_
  exact ⟨_, rfl, rfl, hB⟩
set_option maxRecDepth 100000 in
theorem change_ty (c : Cl) (x : Sm) (n : Int) : Fn3 Tryd.prog 69 (Ty.ex (.agg c.a)) (Ty.ex (.agg (u8s x.l))) (Ty.ex (.int .i64 n)) (Ty.ex (.agg (c.put x n).a)) := by
  refine ⟨fun args w => by kernel_rfl, fun w v u q hv hu hq => ?_⟩
  have hC := cellOf_ty x
  have hX1 := xor_ty c.key x
  have hX2 := xor_ty c.check (chk x)
  have hP : c.put x n = ⟨wrap64 (c.n + n), c.key.xor x, c.check.xor (chk x)⟩ := rfl
  rw [hP]
  clear hP
  generalize c.check.xor (chk x) = X2 at *
  generalize c.key.xor x = X1 at *
  generalize chk x = Y at *
  refine enter_ty 21 [Ty.ex (.agg c.a), Ty.ex (.agg (u8s x.l)), Ty.ex (.int .i64 n)] Tryd.func69 rfl (by kernel_rfl) ⟨hv, hu, hq, trivial⟩ fun a hF => ?_
  have hB := Below.refl w.heap.size w
  repeat with_reducible refine wp_seq ?_
  refine' reg_all hF ?_ mixed (by kernel_rfl) ?_
  rotate_left
  · repeat (first
        | exact Line.nil
        | (refine' Line.cons rfl (.new rfl rfl (run_alloc_i infoC34) rfl) ?_; rotate_left)
        | ((refine' Line.cons rfl (.run rfl rfl ?_) ?_)
           any_goals (first | exact cBoxCl rfl rfl | exact cBoxSum rfl rfl)
           rotate_left))
  intro a w1 hF hb hN
  have hBs := hB.size
  replace hB := hB.trans (hb.mono hB.size)
  dsimp only [ext, Option.getD] at hF
  repeat with_reducible first | refine wp_seq ?_ | refine nThen ?_
  obtain ⟨z, ⟨gx, rfl, hgx, hbx⟩, hF⟩ := hF.open (s := 6) rfl
  refine' region_ty 14 mixed (by kernel_rfl) hF ?_ ?_
  rotate_left
  · simp only [List.take_succ_cons, List.take_zero]
    repeat (first | exact Line.nil | ((refine' Line.cons rfl (.run rfl rfl ?_) ?_); (any_goals (first | exact cMove rfl rfl | exact cFldN34 rfl (.t rfl) | exact cFldK34 rfl (.t rfl) | exact cFldC34 rfl (.t rfl) | exact cLoadN rfl (.t rfl) | exact cLoadSum rfl (.t rfl) Tryd.underlying25 sizeS | exact OpOk.v (cAddW rfl rfl rfl) (congrArg (Value.int .i64) (wrap_is _)) | exact cCall2 rfl rfl rfl hX1 | exact cCall2 rfl rfl rfl hX2 | exact cCall1 rfl rfl hC | exact cBuild3 rfl rfl rfl rfl (fun w => buildC34 _ _ _ w))); rotate_left))
  intro a w2 hF hb hN
  have hBs := hB.size
  replace hB := hB.trans (hb.mono hB.size)
  simp only [List.take_succ_cons, List.take_zero, List.drop_succ_cons, List.drop_zero] at hF hN ⊢
  dsimp only [ext, Option.getD] at hF
  replace hbx := hbx.below hb
  refine tlStoreV (Δ := [(6, Ty.ex (.pointer (some ⟨_, 0, none⟩)))]) hF rfl rfl rfl rfl (hF.getEx (s := 20) rfl) hbx (clSz _ _) ((by show _ = some (Cl.a _).size; rw [Cl.size]; exact info34)) (Cl.one _) (hF.keep [6]) rfl ?_
  intro w3 hF hbx hkx
  refine wpList_nil ?_
  replace hB := below_own hB hkx (by intro y hy; simp only [List.mem_singleton] at hy; omega)
  repeat with_reducible first | refine nThen ?_ | refine wp_ret ?_
  refine retCell hF rfl rfl hbx (Tryd.underlying27) rfl ((by show _ = some (Cl.a _).size; rw [Cl.size]; exact info34)) ?_
  exact ⟨_, rfl, rfl, hB⟩
set_option maxRecDepth 100000 in
theorem putcell_ty (c : Cl) (x : Sm) (n : Int) : Fn3 Tryd.prog 84 (Ty.ex (.agg c.a)) (Ty.ex (.agg (u8s x.l))) (Ty.ex (.int .i64 n)) (Ty.ex (.agg (c.put x n).a)) := by
  refine ⟨fun args w => by kernel_rfl, fun w v u q hv hu hq => ?_⟩
  have hC := check13_ty x
  have hX1 := r1xor_ty c.key x
  have hX2 := r1xor_ty c.check (chk x)
  have hP : c.put x n = ⟨wrap64 (c.n + n), c.key.xor x, c.check.xor (chk x)⟩ := rfl
  rw [hP]
  clear hP
  generalize c.check.xor (chk x) = X2 at *
  generalize c.key.xor x = X1 at *
  generalize chk x = Y at *
  refine enter_ty 21 [Ty.ex (.agg c.a), Ty.ex (.agg (u8s x.l)), Ty.ex (.int .i64 n)] Tryd.func84 rfl (by kernel_rfl) ⟨hv, hu, hq, trivial⟩ fun a hF => ?_
  have hB := Below.refl w.heap.size w
  repeat with_reducible refine wp_seq ?_
  refine' reg_all hF ?_ mixed (by kernel_rfl) ?_
  rotate_left
  · repeat (first
        | exact Line.nil
        | (refine' Line.cons rfl (.new rfl rfl (run_alloc_i infoC49) rfl) ?_; rotate_left)
        | ((refine' Line.cons rfl (.run rfl rfl ?_) ?_)
           any_goals (first | exact cBoxCl rfl rfl | exact cBoxSum rfl rfl)
           rotate_left))
  intro a w1 hF hb hN
  have hBs := hB.size
  replace hB := hB.trans (hb.mono hB.size)
  dsimp only [ext, Option.getD] at hF
  repeat with_reducible first | refine wp_seq ?_ | refine nThen ?_
  obtain ⟨z, ⟨gx, rfl, hgx, hbx⟩, hF⟩ := hF.open (s := 6) rfl
  refine' region_ty 14 mixed (by kernel_rfl) hF ?_ ?_
  rotate_left
  · simp only [List.take_succ_cons, List.take_zero]
    repeat (first | exact Line.nil | ((refine' Line.cons rfl (.run rfl rfl ?_) ?_); (any_goals (first | exact cMove rfl rfl | exact cFldN49 rfl (.t rfl) | exact cFldK49 rfl (.t rfl) | exact cFldC49 rfl (.t rfl) | exact cLoadN rfl (.t rfl) | exact cLoadSum rfl (.t rfl) Tryd.underlying112 sizeR | exact OpOk.v (cAddW rfl rfl rfl) (congrArg (Value.int .i64) (wrap_is _)) | exact cCall2 rfl rfl rfl hX1 | exact cCall2 rfl rfl rfl hX2 | exact cCall1 rfl rfl hC | exact cBuild3 rfl rfl rfl rfl (fun w => buildC49 _ _ _ w))); rotate_left))
  intro a w2 hF hb hN
  have hBs := hB.size
  replace hB := hB.trans (hb.mono hB.size)
  simp only [List.take_succ_cons, List.take_zero, List.drop_succ_cons, List.drop_zero] at hF hN ⊢
  dsimp only [ext, Option.getD] at hF
  replace hbx := hbx.below hb
  refine tlStoreV (Δ := [(6, Ty.ex (.pointer (some ⟨_, 0, none⟩)))]) hF rfl rfl rfl rfl (hF.getEx (s := 20) rfl) hbx (clSz _ _) ((by show _ = some (Cl.a _).size; rw [Cl.size]; exact info49)) (Cl.one _) (hF.keep [6]) rfl ?_
  intro w3 hF hbx hkx
  refine wpList_nil ?_
  replace hB := below_own hB hkx (by intro y hy; simp only [List.mem_singleton] at hy; omega)
  repeat with_reducible first | refine nThen ?_ | refine wp_ret ?_
  refine retCell hF rfl rfl hbx (Tryd.underlying114) rfl ((by show _ = some (Cl.a _).size; rw [Cl.size]; exact info49)) ?_
  exact ⟨_, rfl, rfl, hB⟩
set_option maxRecDepth 100000 in
theorem put_ty (c : Cl) (x : Sm) : Fn2 Tryd.prog 43 (Ty.ex (.agg c.a)) (Ty.ex (.agg (u8s x.l))) (Ty.ex (.agg (c.put x 1).a)) := by
  refine ⟨fun args w => by kernel_rfl, fun w v u hv hu => ?_⟩
  have hC := change_ty c x 1
  generalize c.put x 1 = d at *
  refine enter_ty 8 [Ty.ex (.agg c.a), Ty.ex (.agg (u8s x.l))] Tryd.func43 rfl (by kernel_rfl) ⟨hv, hu, trivial⟩ fun a hF => ?_
  have hB := Below.refl w.heap.size w
  repeat with_reducible refine wp_seq ?_
  refine' reg_all hF ?_ mixed (by kernel_rfl) ?_
  rotate_left
  · repeat (first
        | exact Line.nil
        | (refine' Line.cons rfl (.new rfl rfl (run_alloc_i infoC34) rfl) ?_; rotate_left)
        | ((refine' Line.cons rfl (.run rfl rfl ?_) ?_)
           any_goals (first | exact cBoxCl rfl rfl | exact cBoxSum rfl rfl)
           rotate_left))
  intro a w1 hF hb hN
  have hBs := hB.size
  replace hB := hB.trans (hb.mono hB.size)
  dsimp only [ext, Option.getD] at hF
  repeat with_reducible first | refine wp_seq ?_ | refine nThen ?_
  obtain ⟨z, ⟨gx, rfl, hgx, hbx⟩, hF⟩ := hF.open (s := 4) rfl
  refine' region_ty 3 mixed (by kernel_rfl) hF ?_ ?_
  rotate_left
  · simp only [List.take_succ_cons, List.take_zero]
    repeat (first | exact Line.nil | ((refine' Line.cons rfl (.run rfl rfl ?_) ?_); (any_goals (first | exact cLoadCl34 rfl (.t rfl) | exact cLoadSum rfl (.t rfl) Tryd.underlying25 sizeS | exact cCall3 rfl rfl rfl rfl hC)); rotate_left))
  intro a w2 hF hb hN
  have hBs := hB.size
  replace hB := hB.trans (hb.mono hB.size)
  simp only [List.take_succ_cons, List.take_zero, List.drop_succ_cons, List.drop_zero] at hF hN ⊢
  dsimp only [ext, Option.getD] at hF
  replace hbx := hbx.below hb
  refine tlStoreV (Δ := [(4, Ty.ex (.pointer (some ⟨_, 0, none⟩)))]) hF rfl rfl rfl rfl (hF.getEx (s := 7) rfl) hbx (clSz _ _) ((by show _ = some (Cl.a _).size; rw [Cl.size]; exact info34)) (Cl.one _) (hF.keep [4]) rfl ?_
  intro w3 hF hbx hkx
  refine wpList_nil ?_
  replace hB := below_own hB hkx (by intro y hy; simp only [List.mem_singleton] at hy; omega)
  repeat with_reducible first | refine nThen ?_ | refine wp_ret ?_
  refine retCell hF rfl rfl hbx (Tryd.underlying27) rfl ((by show _ = some (Cl.a _).size; rw [Cl.size]; exact info34)) ?_
  exact ⟨_, rfl, rfl, hB⟩
set_option maxRecDepth 100000 in
theorem take_ty (c : Cl) (x : Sm) : Fn2 Tryd.prog 77 (Ty.ex (.agg c.a)) (Ty.ex (.agg (u8s x.l))) (Ty.ex (.agg (c.put x (-1)).a)) := by
  refine ⟨fun args w => by kernel_rfl, fun w v u hv hu => ?_⟩
  have hC := change_ty c x (-1)
  generalize c.put x (-1) = d at *
  refine enter_ty 8 [Ty.ex (.agg c.a), Ty.ex (.agg (u8s x.l))] Tryd.func77 rfl (by kernel_rfl) ⟨hv, hu, trivial⟩ fun a hF => ?_
  have hB := Below.refl w.heap.size w
  repeat with_reducible refine wp_seq ?_
  refine' reg_all hF ?_ mixed (by kernel_rfl) ?_
  rotate_left
  · repeat (first
        | exact Line.nil
        | (refine' Line.cons rfl (.new rfl rfl (run_alloc_i infoC34) rfl) ?_; rotate_left)
        | ((refine' Line.cons rfl (.run rfl rfl ?_) ?_)
           any_goals (first | exact cBoxCl rfl rfl | exact cBoxSum rfl rfl)
           rotate_left))
  intro a w1 hF hb hN
  have hBs := hB.size
  replace hB := hB.trans (hb.mono hB.size)
  dsimp only [ext, Option.getD] at hF
  repeat with_reducible first | refine wp_seq ?_ | refine nThen ?_
  obtain ⟨z, ⟨gx, rfl, hgx, hbx⟩, hF⟩ := hF.open (s := 4) rfl
  refine' region_ty 3 mixed (by kernel_rfl) hF ?_ ?_
  rotate_left
  · simp only [List.take_succ_cons, List.take_zero]
    repeat (first | exact Line.nil | ((refine' Line.cons rfl (.run rfl rfl ?_) ?_); (any_goals (first | exact cLoadCl34 rfl (.t rfl) | exact cLoadSum rfl (.t rfl) Tryd.underlying25 sizeS | exact cCall3 rfl rfl rfl rfl hC)); rotate_left))
  intro a w2 hF hb hN
  have hBs := hB.size
  replace hB := hB.trans (hb.mono hB.size)
  simp only [List.take_succ_cons, List.take_zero, List.drop_succ_cons, List.drop_zero] at hF hN ⊢
  dsimp only [ext, Option.getD] at hF
  replace hbx := hbx.below hb
  refine tlStoreV (Δ := [(4, Ty.ex (.pointer (some ⟨_, 0, none⟩)))]) hF rfl rfl rfl rfl (hF.getEx (s := 7) rfl) hbx (clSz _ _) ((by show _ = some (Cl.a _).size; rw [Cl.size]; exact info34)) (Cl.one _) (hF.keep [4]) rfl ?_
  intro w3 hF hbx hkx
  refine wpList_nil ?_
  replace hB := below_own hB hkx (by intro y hy; simp only [List.mem_singleton] at hy; omega)
  repeat with_reducible first | refine nThen ?_ | refine wp_ret ?_
  refine retCell hF rfl rfl hbx (Tryd.underlying27) rfl ((by show _ = some (Cl.a _).size; rw [Cl.size]; exact info34)) ?_
  exact ⟨_, rfl, rfl, hB⟩
set_option maxRecDepth 100000 in
theorem cminus_ty (c d : Cl) : Fn2 Tryd.prog 49 (Ty.ex (.agg c.a)) (Ty.ex (.agg d.a)) (Ty.ex (.agg (c.minus d).a)) := by
  refine ⟨fun args w => by kernel_rfl, fun w v u hv hu => ?_⟩
  have hX1 := xor_ty c.key d.key
  have hX2 := xor_ty c.check d.check
  have hP : c.minus d = ⟨wrap64 (c.n - d.n), c.key.xor d.key, c.check.xor d.check⟩ := rfl
  rw [hP]
  clear hP
  generalize c.check.xor d.check = X2 at *
  generalize c.key.xor d.key = X1 at *
  refine enter_ty 21 [Ty.ex (.agg c.a), Ty.ex (.agg d.a)] Tryd.func49 rfl (by kernel_rfl) ⟨hv, hu, trivial⟩ fun a hF => ?_
  have hB := Below.refl w.heap.size w
  repeat with_reducible refine wp_seq ?_
  refine' reg_all hF ?_ mixed (by kernel_rfl) ?_
  rotate_left
  · repeat (first
        | exact Line.nil
        | (refine' Line.cons rfl (.new rfl rfl (run_alloc_i infoC34) rfl) ?_; rotate_left)
        | ((refine' Line.cons rfl (.run rfl rfl ?_) ?_)
           any_goals exact cBoxCl rfl rfl
           rotate_left))
  intro a w1 hF hb hN
  have hBs := hB.size
  replace hB := hB.trans (hb.mono hB.size)
  dsimp only [ext, Option.getD] at hF
  repeat with_reducible first | refine wp_seq ?_ | refine nThen ?_
  obtain ⟨z, ⟨gx, rfl, hgx, hbx⟩, hF⟩ := hF.open (s := 4) rfl
  refine' region_ty 16 mixed (by kernel_rfl) hF ?_ ?_
  rotate_left
  · simp only [List.take_succ_cons, List.take_zero]
    repeat (first | exact Line.nil | ((refine' Line.cons rfl (.run rfl rfl ?_) ?_); (any_goals (first | exact cFldN34 rfl (.t rfl) | exact cFldK34 rfl (.t rfl) | exact cFldC34 rfl (.t rfl) | exact cLoadN rfl (.t rfl) | exact cLoadSum rfl (.t rfl) Tryd.underlying25 sizeS | exact OpOk.v (cSubW rfl rfl rfl) (congrArg (Value.int .i64) (wrap_is _)) | exact cCall2 rfl rfl rfl hX1 | exact cCall2 rfl rfl rfl hX2 | exact cBuild3 rfl rfl rfl rfl (fun w => buildC34 _ _ _ w))); rotate_left))
  intro a w2 hF hb hN
  have hBs := hB.size
  replace hB := hB.trans (hb.mono hB.size)
  simp only [List.take_succ_cons, List.take_zero, List.drop_succ_cons, List.drop_zero] at hF hN ⊢
  dsimp only [ext, Option.getD] at hF
  replace hbx := hbx.below hb
  refine tlStoreV (Δ := [(4, Ty.ex (.pointer (some ⟨_, 0, none⟩)))]) hF rfl rfl rfl rfl (hF.getEx (s := 20) rfl) hbx (clSz _ _) ((by show _ = some (Cl.a _).size; rw [Cl.size]; exact info34)) (Cl.one _) (hF.keep [4]) rfl ?_
  intro w3 hF hbx hkx
  refine wpList_nil ?_
  replace hB := below_own hB hkx (by intro y hy; simp only [List.mem_singleton] at hy; omega)
  repeat with_reducible first | refine nThen ?_ | refine wp_ret ?_
  refine retCell hF rfl rfl hbx (Tryd.underlying27) rfl ((by show _ = some (Cl.a _).size; rw [Cl.size]; exact info34)) ?_
  exact ⟨_, rfl, rfl, hB⟩
set_option maxRecDepth 100000 in
theorem rminus_ty (c d : Cl) : Fn2 Tryd.prog 55 (Ty.ex (.agg c.a)) (Ty.ex (.agg d.a)) (Ty.ex (.agg (c.minus d).a)) := by
  refine ⟨fun args w => by kernel_rfl, fun w v u hv hu => ?_⟩
  have hX1 := r1xor_ty c.key d.key
  have hX2 := r1xor_ty c.check d.check
  have hP : c.minus d = ⟨wrap64 (c.n - d.n), c.key.xor d.key, c.check.xor d.check⟩ := rfl
  rw [hP]
  clear hP
  generalize c.check.xor d.check = X2 at *
  generalize c.key.xor d.key = X1 at *
  refine enter_ty 21 [Ty.ex (.agg c.a), Ty.ex (.agg d.a)] Tryd.func55 rfl (by kernel_rfl) ⟨hv, hu, trivial⟩ fun a hF => ?_
  have hB := Below.refl w.heap.size w
  repeat with_reducible refine wp_seq ?_
  refine' reg_all hF ?_ mixed (by kernel_rfl) ?_
  rotate_left
  · repeat (first
        | exact Line.nil
        | (refine' Line.cons rfl (.new rfl rfl (run_alloc_i infoC49) rfl) ?_; rotate_left)
        | ((refine' Line.cons rfl (.run rfl rfl ?_) ?_)
           any_goals exact cBoxCl rfl rfl
           rotate_left))
  intro a w1 hF hb hN
  have hBs := hB.size
  replace hB := hB.trans (hb.mono hB.size)
  dsimp only [ext, Option.getD] at hF
  repeat with_reducible first | refine wp_seq ?_ | refine nThen ?_
  obtain ⟨z, ⟨gx, rfl, hgx, hbx⟩, hF⟩ := hF.open (s := 4) rfl
  refine' region_ty 16 mixed (by kernel_rfl) hF ?_ ?_
  rotate_left
  · simp only [List.take_succ_cons, List.take_zero]
    repeat (first | exact Line.nil | ((refine' Line.cons rfl (.run rfl rfl ?_) ?_); (any_goals (first | exact cFldN49 rfl (.t rfl) | exact cFldK49 rfl (.t rfl) | exact cFldC49 rfl (.t rfl) | exact cLoadN rfl (.t rfl) | exact cLoadSum rfl (.t rfl) Tryd.underlying112 sizeR | exact OpOk.v (cSubW rfl rfl rfl) (congrArg (Value.int .i64) (wrap_is _)) | exact cCall2 rfl rfl rfl hX1 | exact cCall2 rfl rfl rfl hX2 | exact cBuild3 rfl rfl rfl rfl (fun w => buildC49 _ _ _ w))); rotate_left))
  intro a w2 hF hb hN
  have hBs := hB.size
  replace hB := hB.trans (hb.mono hB.size)
  simp only [List.take_succ_cons, List.take_zero, List.drop_succ_cons, List.drop_zero] at hF hN ⊢
  dsimp only [ext, Option.getD] at hF
  replace hbx := hbx.below hb
  refine tlStoreV (Δ := [(4, Ty.ex (.pointer (some ⟨_, 0, none⟩)))]) hF rfl rfl rfl rfl (hF.getEx (s := 20) rfl) hbx (clSz _ _) ((by show _ = some (Cl.a _).size; rw [Cl.size]; exact info49)) (Cl.one _) (hF.keep [4]) rfl ?_
  intro w3 hF hbx hkx
  refine wpList_nil ?_
  replace hB := below_own hB hkx (by intro y hy; simp only [List.mem_singleton] at hy; omega)
  repeat with_reducible first | refine nThen ?_ | refine wp_ret ?_
  refine retCell hF rfl rfl hbx (Tryd.underlying114) rfl ((by show _ = some (Cl.a _).size; rw [Cl.size]; exact info49)) ?_
  exact ⟨_, rfl, rfl, hB⟩
set_option maxRecDepth 100000 in
theorem czero_ty (c : Cl) : Fn1 Tryd.prog 80 (Ty.ex (.agg c.a)) (Ty.ex (.bool (decide (c = Cl.zero)))) := by
  refine ⟨fun args w => by kernel_rfl, fun w v hv => ?_⟩
  refine enter_ty 6 [Ty.ex (.agg c.a)] Tryd.func80 rfl (by kernel_rfl) ⟨hv, trivial⟩ fun a hF => ?_
  have hB := Below.refl w.heap.size w
  repeat with_reducible refine wp_seq ?_
  refine' reg_all hF ?_ mixed (by kernel_rfl) ?_
  rotate_left
  · repeat (first | exact Line.nil | ((refine' Line.cons rfl (.run rfl rfl ?_) ?_); (any_goals (first | exact cAssign rfl rfl | exact cBoxCl rfl rfl)); rotate_left))
  intro a w1 hF hb hN
  have hBs := hB.size
  replace hB := hB.trans (hb.mono hB.size)
  dsimp only [ext, Option.getD] at hF
  repeat with_reducible first | refine wp_seq ?_ | refine nThen ?_
  refine' reg_all hF ?_ mixed (by kernel_rfl) ?_
  rotate_left
  · repeat (first | exact Line.nil | ((refine' Line.cons rfl (.run rfl rfl ?_) ?_); (any_goals (first | exact cAssign rfl rfl | exact cLoadCl34 rfl (.t rfl) | exact cBuildE rfl (fun w => buildZ34 w) | exact cEqlAgg rfl rfl rfl guard34 (fun w => eql_cl34 _ _ w))); rotate_left))
  intro a w2 hF hb hN
  have hBs := hB.size
  replace hB := hB.trans (hb.mono hB.size)
  dsimp only [ext, Option.getD] at hF
  repeat with_reducible first | refine nThen ?_ | refine wp_ret ?_
  refine ret1 hF rfl rfl fun z hz => ?_
  exact ⟨z, rfl, hz, hB⟩
theorem buildS0 (w : World) : (Instr.build 25 #[]).run Tryd.prog w = .ok (.agg (u8s Sm.zero.l)) w := by kernel_rfl
/-- What Pure tells of a cell. -/
def Cl.sum (c : Cl) : Sm := if c.ok then c.key else Sm.zero
def Cl.plus (c : Cl) : Bool := c.ok && decide (c.n = 1)
set_option maxRecDepth 100000 in
set_option maxHeartbeats 1000000 in
theorem pure_ty (c : Cl) : Fn1 Tryd.prog 75 (Ty.ex (.agg c.a)) (Ty.ex (.tuple #[.agg (u8s c.sum.l), .bool c.plus, .bool c.ok])) := by
  refine ⟨fun args w => by kernel_rfl, fun w v hv => ?_⟩
  have hC := cellOf_ty c.key
  have bad : ∀ (hok : c.ok = false), c.sum = Sm.zero ∧ c.plus = false := fun hok => by unfold Cl.sum Cl.plus; rw [hok]; exact ⟨rfl, rfl⟩
  by_cases hn : c.n = 1 ∨ c.n = -1
  rotate_left
  · have hok : c.ok = false := by
      unfold Cl.ok
      rw [decide_eq_false (fun h => hn (.inl h)), decide_eq_false (fun h => hn (.inr h))]
      rfl
    have h1 : (!decide (c.n = 1)) = true := by rw [decide_eq_false (fun h => hn (.inl h))]; rfl
    have h2 : (!decide (c.n = -1)) = true := by rw [decide_eq_false (fun h => hn (.inr h))]; rfl
    rw [(bad hok).1, (bad hok).2, hok]
    refine enter_ty 27 [Ty.ex (.agg c.a)] Tryd.func75 rfl (by kernel_rfl) ⟨hv, trivial⟩ fun a hF => ?_
    have hB := Below.refl w.heap.size w
    repeat with_reducible refine wp_seq ?_
    refine' reg_all hF ?_ mixed (by kernel_rfl) ?_
    rotate_left
    · repeat (first
          | exact Line.nil
          | (refine' Line.cons rfl (.new rfl rfl (run_alloc_i infoS) rfl) ?_; rotate_left)
          | ((refine' Line.cons rfl (.run rfl rfl ?_) ?_)
             any_goals (first | exact cAssign rfl rfl | exact cBoxCl rfl rfl)
             rotate_left))
    intro a w1 hF hb hN
    have hBs := hB.size
    replace hB := hB.trans (hb.mono hB.size)
    dsimp only [ext, Option.getD] at hF
    repeat with_reducible first | refine wp_seq ?_ | refine nThen ?_
    obtain ⟨z, ⟨gx, rfl, hgx, hbx⟩, hF⟩ := hF.open (s := 2) rfl
    refine' reg_all hF ?_ mixed (by kernel_rfl) ?_
    rotate_left
    · repeat (first | exact Line.nil | (refine' Line.cons rfl (.no rfl rfl rfl rfl rfl rfl) ?_; rotate_left) | ((first | refine' Line.cons rfl (.run rfl rfl ?_) ?_ | refine' Line.cons rfl (.yes rfl rfl rfl rfl ?_) ?_); (any_goals (first | exact cMove rfl rfl | exact cFldN34 rfl (.t rfl) | exact cLoadN rfl (.t rfl) | exact OpOk.b (cNeq rfl rfl rfl) h1 | exact OpOk.b (cNeq rfl rfl rfl) h2 | exact cPickT rfl rfl rfl)); rotate_left))
    intro a w2 hF hb hN
    have hBs := hB.size
    replace hB := hB.trans (hb.mono hB.size)
    dsimp only [ext, Option.getD] at hF
    repeat with_reducible refine nThen ?_
    replace hbx := hbx.below hb
    refine cond_t hF rfl ?_
    repeat with_reducible refine wp_seq ?_
    refine' region_ty 1 mixed (by kernel_rfl) hF ?_ ?_
    rotate_left
    · simp only [List.take_succ_cons, List.take_zero]
      repeat (first | exact Line.nil | ((refine' Line.cons rfl (.run rfl rfl ?_) ?_); (any_goals exact cBuildE rfl (fun w => buildS0 w)); rotate_left))
    intro a w3 hF hb hN
    have hBs := hB.size
    replace hB := hB.trans (hb.mono hB.size)
    simp only [List.take_succ_cons, List.take_zero, List.drop_succ_cons, List.drop_zero] at hF hN ⊢
    dsimp only [ext, Option.getD] at hF
    replace hbx := hbx.below hb
    refine tlStoreV (Δ := [(2, Ty.ex (.pointer (some ⟨gx, 0, none⟩)))]) hF rfl rfl rfl rfl (hF.getEx (s := 21) rfl) hbx (sumSz _) (by show _ = some (u8s _).size; rw [Sm.size]; exact sizeS) (u8s_one _) (hF.keep [2]) rfl ?_
    intro w4 hF hbx hkx
    replace hB := below_own hB hkx (by intro y hy; simp only [List.mem_singleton] at hy; omega)
    refine' tlOp hF rfl rfl rfl ?_ ?_
    rotate_left
    · exact cAssign rfl rfl
    intro a w5 hF hb
    have hBs := hB.size
    replace hB := hB.trans (hb.mono hB.size)
    try (refine wpList_nil ?_)
    replace hbx := hbx.below hb
    refine' tlOp hF rfl rfl rfl ?_ ?_
    rotate_left
    · exact cAssign rfl rfl
    intro a w6 hF hb
    have hBs := hB.size
    replace hB := hB.trans (hb.mono hB.size)
    try (refine wpList_nil ?_)
    repeat with_reducible first | refine nThen ?_ | refine wp_ret ?_ | refine rThen ?_
    replace hbx := hbx.below hb
    refine retCell3 hF rfl rfl rfl rfl hbx Tryd.underlying25 rfl (by show _ = some (u8s _).size; rw [Sm.size]; exact sizeS) ?_
    exact ⟨_, rfl, rfl, hB⟩
  by_cases hk : c.check = chk c.key
  rotate_left
  · have hok : c.ok = false := by
      unfold Cl.ok
      rw [decide_eq_false hk, Bool.and_false]
    rw [(bad hok).1, (bad hok).2, hok]
    refine enter_ty 27 [Ty.ex (.agg c.a)] Tryd.func75 rfl (by kernel_rfl) ⟨hv, trivial⟩ fun a hF => ?_
    have hB := Below.refl w.heap.size w
    repeat with_reducible refine wp_seq ?_
    refine' reg_all hF ?_ mixed (by kernel_rfl) ?_
    rotate_left
    · repeat (first
          | exact Line.nil
          | (refine' Line.cons rfl (.new rfl rfl (run_alloc_i infoS) rfl) ?_; rotate_left)
          | ((refine' Line.cons rfl (.run rfl rfl ?_) ?_)
             any_goals (first | exact cAssign rfl rfl | exact cBoxCl rfl rfl)
             rotate_left))
    intro a w1 hF hb hN
    have hBs := hB.size
    replace hB := hB.trans (hb.mono hB.size)
    dsimp only [ext, Option.getD] at hF
    repeat with_reducible first | refine wp_seq ?_ | refine nThen ?_
    obtain ⟨z, ⟨gx, rfl, hgx, hbx⟩, hF⟩ := hF.open (s := 2) rfl
    refine wp_mono (Q := fun e a w2 => e = .normal ∧ Fr 27 [(2, Ty.ex (.pointer (some ⟨gx, 0, none⟩))), (20, Ty.ex (.bool true))] a w2 ∧ Below w.heap.size w w2 ∧ Blk w2 gx 25 (Value.agg (u8s (List.replicate 32 0))).cells) ?_ ?_
    · rcases hn with h1 | h1
      · have e1 : (!decide (c.n = 1)) = false := by rw [decide_eq_true h1]; rfl
        refine' reg_all hF ?_ mixed (by kernel_rfl) ?_
        rotate_left
        · repeat (first | exact Line.nil | (refine' Line.cons rfl (.no rfl rfl rfl rfl rfl rfl) ?_; rotate_left) | ((first | refine' Line.cons rfl (.run rfl rfl ?_) ?_ | refine' Line.cons rfl (.yes rfl rfl rfl rfl ?_) ?_); (any_goals (first | exact cMove rfl rfl | exact cFldN34 rfl (.t rfl) | exact cLoadN rfl (.t rfl) | exact OpOk.b (cNeq rfl rfl rfl) e1 | exact cFldC34 rfl (.t rfl) | exact cFldK34 rfl (.t rfl) | exact cLoadSum rfl (.t rfl) Tryd.underlying25 sizeS | exact cCall1 rfl rfl hC | exact OpOk.b (c := true) (cNeqAgg rfl rfl rfl guardS (fun w => neqS _ _ w)) (by rw [decide_eq_false hk]; rfl) | exact cPickF rfl rfl rfl)); rotate_left))
        intro a w2 hF hb hN
        have hBs := hB.size
        replace hB := hB.trans (hb.mono hB.size)
        dsimp only [ext, Option.getD] at hF
        exact ⟨rfl, hF.keep [2, 20], hB, hbx.below hb⟩
      · have e1 : (!decide (c.n = 1)) = true := by rw [h1]; rfl
        have e2 : (!decide (c.n = -1)) = false := by rw [h1]; rfl
        refine' reg_all hF ?_ mixed (by kernel_rfl) ?_
        rotate_left
        · repeat (first | exact Line.nil | ((first | refine' Line.cons rfl (.run rfl rfl ?_) ?_ | refine' Line.cons rfl (.yes rfl rfl rfl rfl ?_) ?_); (any_goals (first | exact cMove rfl rfl | exact cFldN34 rfl (.t rfl) | exact cLoadN rfl (.t rfl) | exact OpOk.b (cNeq rfl rfl rfl) e1 | exact OpOk.b (cNeq rfl rfl rfl) e2 | exact cFldC34 rfl (.t rfl) | exact cFldK34 rfl (.t rfl) | exact cLoadSum rfl (.t rfl) Tryd.underlying25 sizeS | exact cCall1 rfl rfl hC | exact OpOk.b (c := true) (cNeqAgg rfl rfl rfl guardS (fun w => neqS _ _ w)) (by rw [decide_eq_false hk]; rfl) | exact cPickT rfl rfl rfl | exact cPickF rfl rfl rfl)); rotate_left))
        intro a w2 hF hb hN
        have hBs := hB.size
        replace hB := hB.trans (hb.mono hB.size)
        dsimp only [ext, Option.getD] at hF
        exact ⟨rfl, hF.keep [2, 20], hB, hbx.below hb⟩
    clear hF hB hbx
    rintro e a w2 ⟨rfl, hF, hB, hbx⟩
    repeat with_reducible refine nThen ?_
    refine cond_t hF rfl ?_
    repeat with_reducible refine wp_seq ?_
    refine' region_ty 1 mixed (by kernel_rfl) hF ?_ ?_
    rotate_left
    · simp only [List.take_succ_cons, List.take_zero]
      repeat (first | exact Line.nil | ((refine' Line.cons rfl (.run rfl rfl ?_) ?_); (any_goals exact cBuildE rfl (fun w => buildS0 w)); rotate_left))
    intro a w3 hF hb hN
    have hBs := hB.size
    replace hB := hB.trans (hb.mono hB.size)
    simp only [List.take_succ_cons, List.take_zero, List.drop_succ_cons, List.drop_zero] at hF hN ⊢
    dsimp only [ext, Option.getD] at hF
    replace hbx := hbx.below hb
    refine tlStoreV (Δ := [(2, Ty.ex (.pointer (some ⟨gx, 0, none⟩)))]) hF rfl rfl rfl rfl (hF.getEx (s := 21) rfl) hbx (sumSz _) (by show _ = some (u8s _).size; rw [Sm.size]; exact sizeS) (u8s_one _) (hF.keep [2]) rfl ?_
    intro w4 hF hbx hkx
    replace hB := below_own hB hkx (by intro y hy; simp only [List.mem_singleton] at hy; omega)
    refine' tlOp hF rfl rfl rfl ?_ ?_
    rotate_left
    · exact cAssign rfl rfl
    intro a w5 hF hb
    have hBs := hB.size
    replace hB := hB.trans (hb.mono hB.size)
    try (refine wpList_nil ?_)
    replace hbx := hbx.below hb
    refine' tlOp hF rfl rfl rfl ?_ ?_
    rotate_left
    · exact cAssign rfl rfl
    intro a w6 hF hb
    have hBs := hB.size
    replace hB := hB.trans (hb.mono hB.size)
    try (refine wpList_nil ?_)
    repeat with_reducible first | refine nThen ?_ | refine wp_ret ?_ | refine rThen ?_
    replace hbx := hbx.below hb
    refine retCell3 hF rfl rfl rfl rfl hbx Tryd.underlying25 rfl (by show _ = some (u8s _).size; rw [Sm.size]; exact sizeS) ?_
    exact ⟨_, rfl, rfl, hB⟩
  have hok : c.ok = true := by
    unfold Cl.ok
    rw [decide_eq_true hk]
    rcases hn with h | h <;> rw [h] <;> rfl
  have hsum : c.sum = c.key := by unfold Cl.sum; rw [hok]; rfl
  have hplus : c.plus = decide (c.n = 1) := by unfold Cl.plus; rw [hok]; rfl
  rw [hsum, hplus, hok]
  refine enter_ty 27 [Ty.ex (.agg c.a)] Tryd.func75 rfl (by kernel_rfl) ⟨hv, trivial⟩ fun a hF => ?_
  have hB := Below.refl w.heap.size w
  repeat with_reducible refine wp_seq ?_
  refine' reg_all hF ?_ mixed (by kernel_rfl) ?_
  rotate_left
  · repeat (first
        | exact Line.nil
        | (refine' Line.cons rfl (.new rfl rfl (run_alloc_i infoS) rfl) ?_; rotate_left)
        | ((refine' Line.cons rfl (.run rfl rfl ?_) ?_)
           any_goals (first | exact cAssign rfl rfl | exact cBoxCl rfl rfl)
           rotate_left))
  intro a w1 hF hb hN
  have hBs := hB.size
  replace hB := hB.trans (hb.mono hB.size)
  dsimp only [ext, Option.getD] at hF
  repeat with_reducible first | refine wp_seq ?_ | refine nThen ?_
  obtain ⟨z, ⟨gx, rfl, hgx, hbx⟩, hF⟩ := hF.open (s := 2) rfl
  refine wp_mono (Q := fun e a w2 => e = .normal ∧ Fr 27 [(1, Ty.at_ 27 c.enc), (2, Ty.ex (.pointer (some ⟨gx, 0, none⟩))), (20, Ty.ex (.bool false))] a w2 ∧ Below w.heap.size w w2 ∧ Blk w2 gx 25 (Value.agg (u8s (List.replicate 32 0))).cells) ?_ ?_
  · rcases hn with h1 | h1
    · have e1 : (!decide (c.n = 1)) = false := by rw [decide_eq_true h1]; rfl
      refine' reg_all hF ?_ mixed (by kernel_rfl) ?_
      rotate_left
      · repeat (first | exact Line.nil | (refine' Line.cons rfl (.no rfl rfl rfl rfl rfl rfl) ?_; rotate_left) | ((first | refine' Line.cons rfl (.run rfl rfl ?_) ?_ | refine' Line.cons rfl (.yes rfl rfl rfl rfl ?_) ?_); (any_goals (first | exact cMove rfl rfl | exact cFldN34 rfl (.t rfl) | exact cLoadN rfl (.t rfl) | exact OpOk.b (cNeq rfl rfl rfl) e1 | exact cFldC34 rfl (.t rfl) | exact cFldK34 rfl (.t rfl) | exact cLoadSum rfl (.t rfl) Tryd.underlying25 sizeS | exact cCall1 rfl rfl hC | exact OpOk.b (c := false) (cNeqAgg rfl rfl rfl guardS (fun w => neqS _ _ w)) (by rw [decide_eq_true hk]; rfl) | exact cPickF rfl rfl rfl)); rotate_left))
      intro a w2 hF hb hN
      have hBs := hB.size
      replace hB := hB.trans (hb.mono hB.size)
      dsimp only [ext, Option.getD] at hF
      exact ⟨rfl, hF.keep [1, 2, 20], hB, hbx.below hb⟩
    · have e1 : (!decide (c.n = 1)) = true := by rw [h1]; rfl
      have e2 : (!decide (c.n = -1)) = false := by rw [h1]; rfl
      refine' reg_all hF ?_ mixed (by kernel_rfl) ?_
      rotate_left
      · repeat (first | exact Line.nil | ((first | refine' Line.cons rfl (.run rfl rfl ?_) ?_ | refine' Line.cons rfl (.yes rfl rfl rfl rfl ?_) ?_); (any_goals (first | exact cMove rfl rfl | exact cFldN34 rfl (.t rfl) | exact cLoadN rfl (.t rfl) | exact OpOk.b (cNeq rfl rfl rfl) e1 | exact OpOk.b (cNeq rfl rfl rfl) e2 | exact cFldC34 rfl (.t rfl) | exact cFldK34 rfl (.t rfl) | exact cLoadSum rfl (.t rfl) Tryd.underlying25 sizeS | exact cCall1 rfl rfl hC | exact OpOk.b (c := false) (cNeqAgg rfl rfl rfl guardS (fun w => neqS _ _ w)) (by rw [decide_eq_true hk]; rfl) | exact cPickT rfl rfl rfl | exact cPickF rfl rfl rfl)); rotate_left))
      intro a w2 hF hb hN
      have hBs := hB.size
      replace hB := hB.trans (hb.mono hB.size)
      dsimp only [ext, Option.getD] at hF
      exact ⟨rfl, hF.keep [1, 2, 20], hB, hbx.below hb⟩
  clear hF hB hbx
  rintro e a w2 ⟨rfl, hF, hB, hbx⟩
  repeat with_reducible refine nThen ?_
  refine cond_f hF rfl ?_
  repeat with_reducible first | refine wp_seq ?_ | refine nThen ?_ | refine wp_skip ?_
  refine' region_w (v := .agg (u8s c.key.l)) 6 5 mixed (by kernel_rfl) hF rfl hbx (sumSz _) (u8s_one _) rfl ?_ ?_
  rotate_left
  · simp only [List.take_succ_cons, List.take_zero]
    repeat (first
      | exact LineW.nil
      | (refine' LineW.store rfl rfl rfl rfl rfl rfl ((by show _ = some (u8s _).size; rw [Sm.size]; exact sizeS)) ?_; rotate_left)
      | ((first | refine' LineW.cons rfl rfl (.no rfl rfl rfl rfl rfl rfl) (.no rfl rfl rfl rfl rfl rfl) rfl ?_ | refine' LineW.cons rfl rfl (.run rfl rfl ?_) (.run rfl rfl ?_) ?_ ?_ | refine' LineW.cons rfl rfl (.yes rfl rfl rfl rfl ?_) (.yes rfl rfl rfl rfl ?_) ?_ ?_)
         any_goals (first | exact cFldN34 rfl (.t rfl) | exact cLoadN rfl (.t rfl) | exact cFldK34 rfl (.t rfl) | exact cLoadSum rfl (.t rfl) Tryd.underlying25 sizeS | exact cEql rfl rfl rfl | exact rfl)
         rotate_left))
  intro a w4 hF hkx hbx
  replace hB := below_own hB hkx (by intro y hy; simp only [List.mem_singleton] at hy; omega)
  simp only [List.take_succ_cons, List.take_zero, List.drop_succ_cons, List.drop_zero] at hF ⊢
  dsimp only [extW] at hF
  refine' tlOp hF rfl rfl rfl ?_ ?_
  rotate_left
  · exact cAssign rfl rfl
  intro a w5 hF hb
  have hBs := hB.size
  replace hB := hB.trans (hb.mono hB.size)
  try (refine wpList_nil ?_)
  replace hbx := hbx.below hb
  refine' tlOp hF rfl rfl rfl ?_ ?_
  rotate_left
  · exact cAssign rfl rfl
  intro a w6 hF hb
  have hBs := hB.size
  replace hB := hB.trans (hb.mono hB.size)
  try (refine wpList_nil ?_)
  repeat with_reducible first | refine nThen ?_ | refine wp_ret ?_
  replace hbx := hbx.below hb
  refine retCell3 hF rfl rfl rfl rfl hbx Tryd.underlying25 rfl (by show _ = some (u8s _).size; rw [Sm.size]; exact sizeS) ?_
  exact ⟨_, rfl, rfl, hB⟩
set_option maxRecDepth 100000 in
set_option maxHeartbeats 1000000 in
theorem rpure_ty (c : Cl) : Fn1 Tryd.prog 82 (Ty.ex (.agg c.a)) (Ty.ex (.bool c.ok)) := by
  refine ⟨fun args w => by kernel_rfl, fun w v hv => ?_⟩
  have hC := check13_ty c.key
  by_cases h1 : c.n = 1
  · have e1 : decide (c.n = 1) = true := decide_eq_true h1
    have hok : c.ok = decide (c.check = chk c.key) := by unfold Cl.ok; rw [e1]; simp
    rw [hok]
    refine enter_ty 19 [Ty.ex (.agg c.a)] Tryd.func82 rfl (by kernel_rfl) ⟨hv, trivial⟩ fun a hF => ?_
    have hB := Below.refl w.heap.size w
    repeat with_reducible refine wp_seq ?_
    refine' reg_all hF ?_ mixed (by kernel_rfl) ?_
    rotate_left
    · repeat (first | exact Line.nil | ((refine' Line.cons rfl (.run rfl rfl ?_) ?_); (any_goals (first | exact cAssign rfl rfl | exact cBoxCl rfl rfl)); rotate_left))
    intro a w1 hF hb hN
    have hBs := hB.size
    replace hB := hB.trans (hb.mono hB.size)
    dsimp only [ext, Option.getD] at hF
    repeat with_reducible first | refine wp_seq ?_ | refine nThen ?_
    refine' reg_all hF ?_ mixed (by kernel_rfl) ?_
    rotate_left
    · repeat (first | exact Line.nil | (refine' Line.cons rfl (.no rfl rfl rfl rfl rfl rfl) ?_; rotate_left) | ((first | refine' Line.cons rfl (.run rfl rfl ?_) ?_ | refine' Line.cons rfl (.yes rfl rfl rfl rfl ?_) ?_); (any_goals (first | exact cMove rfl rfl | exact cAssign rfl rfl | exact cFldN49 rfl (.t rfl) | exact cLoadN rfl (.t rfl) | exact OpOk.b (cEql rfl rfl rfl) e1 | exact cFldC49 rfl (.t rfl) | exact cFldK49 rfl (.t rfl) | exact cLoadSum rfl (.t rfl) Tryd.underlying112 sizeR | exact cCall1 rfl rfl hC | exact cEqlAgg rfl rfl rfl guardR (fun w => eqlR _ _ w) | exact cPickT rfl rfl rfl)); rotate_left))
    intro a w2 hF hb hN
    have hBs := hB.size
    replace hB := hB.trans (hb.mono hB.size)
    dsimp only [ext, Option.getD] at hF
    repeat with_reducible first | refine nThen ?_ | refine wp_ret ?_
    refine ret1 hF rfl rfl fun z hz => ?_
    exact ⟨z, rfl, hz, hB⟩
  have e1 : decide (c.n = 1) = false := decide_eq_false h1
  by_cases h2 : c.n = -1
  · have e2 : decide (c.n = -1) = true := decide_eq_true h2
    have hok : c.ok = decide (c.check = chk c.key) := by unfold Cl.ok; rw [e2]; simp
    rw [hok]
    refine enter_ty 19 [Ty.ex (.agg c.a)] Tryd.func82 rfl (by kernel_rfl) ⟨hv, trivial⟩ fun a hF => ?_
    have hB := Below.refl w.heap.size w
    repeat with_reducible refine wp_seq ?_
    refine' reg_all hF ?_ mixed (by kernel_rfl) ?_
    rotate_left
    · repeat (first | exact Line.nil | ((refine' Line.cons rfl (.run rfl rfl ?_) ?_); (any_goals (first | exact cAssign rfl rfl | exact cBoxCl rfl rfl)); rotate_left))
    intro a w1 hF hb hN
    have hBs := hB.size
    replace hB := hB.trans (hb.mono hB.size)
    dsimp only [ext, Option.getD] at hF
    repeat with_reducible first | refine wp_seq ?_ | refine nThen ?_
    refine' reg_all hF ?_ mixed (by kernel_rfl) ?_
    rotate_left
    · repeat (first | exact Line.nil | ((first | refine' Line.cons rfl (.run rfl rfl ?_) ?_ | refine' Line.cons rfl (.yes rfl rfl rfl rfl ?_) ?_); (any_goals (first | exact cMove rfl rfl | exact cAssign rfl rfl | exact cFldN49 rfl (.t rfl) | exact cLoadN rfl (.t rfl) | exact OpOk.b (cEql rfl rfl rfl) e1 | exact OpOk.b (cEql rfl rfl rfl) e2 | exact cFldC49 rfl (.t rfl) | exact cFldK49 rfl (.t rfl) | exact cLoadSum rfl (.t rfl) Tryd.underlying112 sizeR | exact cCall1 rfl rfl hC | exact cEqlAgg rfl rfl rfl guardR (fun w => eqlR _ _ w) | exact cPickT rfl rfl rfl | exact cPickF rfl rfl rfl)); rotate_left))
    intro a w2 hF hb hN
    have hBs := hB.size
    replace hB := hB.trans (hb.mono hB.size)
    dsimp only [ext, Option.getD] at hF
    repeat with_reducible first | refine nThen ?_ | refine wp_ret ?_
    refine ret1 hF rfl rfl fun z hz => ?_
    exact ⟨z, rfl, hz, hB⟩
  have e2 : decide (c.n = -1) = false := decide_eq_false h2
  have hok : c.ok = false := by unfold Cl.ok; rw [e1, e2]; rfl
  rw [hok]
  refine enter_ty 19 [Ty.ex (.agg c.a)] Tryd.func82 rfl (by kernel_rfl) ⟨hv, trivial⟩ fun a hF => ?_
  have hB := Below.refl w.heap.size w
  repeat with_reducible refine wp_seq ?_
  refine' reg_all hF ?_ mixed (by kernel_rfl) ?_
  rotate_left
  · repeat (first | exact Line.nil | ((refine' Line.cons rfl (.run rfl rfl ?_) ?_); (any_goals (first | exact cAssign rfl rfl | exact cBoxCl rfl rfl)); rotate_left))
  intro a w1 hF hb hN
  have hBs := hB.size
  replace hB := hB.trans (hb.mono hB.size)
  dsimp only [ext, Option.getD] at hF
  repeat with_reducible first | refine wp_seq ?_ | refine nThen ?_
  refine' reg_all hF ?_ mixed (by kernel_rfl) ?_
  rotate_left
  · repeat (first | exact Line.nil | (refine' Line.cons rfl (.no rfl rfl rfl rfl rfl rfl) ?_; rotate_left) | ((first | refine' Line.cons rfl (.run rfl rfl ?_) ?_ | refine' Line.cons rfl (.yes rfl rfl rfl rfl ?_) ?_); (any_goals (first | exact cMove rfl rfl | exact cAssign rfl rfl | exact cFldN49 rfl (.t rfl) | exact cLoadN rfl (.t rfl) | exact OpOk.b (cEql rfl rfl rfl) e1 | exact OpOk.b (cEql rfl rfl rfl) e2 | exact cPickF rfl rfl rfl)); rotate_left))
  intro a w2 hF hb hN
  have hBs := hB.size
  replace hB := hB.trans (hb.mono hB.size)
  dsimp only [ext, Option.getD] at hF
  repeat with_reducible first | refine nThen ?_ | refine wp_ret ?_
  refine ret1 hF rfl rfl fun z hz => ?_
  exact ⟨z, rfl, hz, hB⟩
end Go.Proofs.YtgmeagkolahkoaaDoor

/- Layer 10: the walks of small helpers: rows copied, rows compared. -/
namespace Go.Proofs.YtgmeagkolahkoaaDoor
open Go.RowKit

end Go.Proofs.YtgmeagkolahkoaaDoor

/- Rows of bytes compared: plainly. -/
namespace Go.Proofs.YtgmeagkolahkoaaDoor

def cmpL : List Nat → List Nat → Int
  | [], [] => 0
  | [], _ :: _ => -1
  | _ :: _, [] => 1
  | a :: x, b :: y => if a < b then -1 else if b < a then 1 else cmpL x y
theorem cmpL_swap : ∀ x y : List Nat, cmpL y x = - cmpL x y
  | [], [] => rfl
  | [], _ :: _ => rfl
  | _ :: _, [] => rfl
  | a :: x, b :: y => by
    have ih := cmpL_swap x y
    unfold cmpL
    by_cases h1 : a < b
    · rw [if_neg (by omega), if_pos h1, if_pos h1]; rfl
    · by_cases h2 : b < a
      · rw [if_pos h2, if_neg h1, if_pos h2]
      · rw [if_neg h2, if_neg h1, if_neg h1, if_neg h2]; exact ih
theorem cmpL_eq : ∀ x y : List Nat, cmpL x y = 0 ↔ x = y
  | [], [] => by simp [cmpL]
  | [], _ :: _ => by simp [cmpL]
  | _ :: _, [] => by simp [cmpL]
  | a :: x, b :: y => by
    have ih := cmpL_eq x y
    unfold cmpL
    by_cases h1 : a < b
    · rw [if_pos h1]; simp; omega
    · by_cases h2 : b < a
      · rw [if_neg h1, if_pos h2]; simp; omega
      · rw [if_neg h1, if_neg h2, ih]
        have : a = b := by omega
        simp [this]
theorem cmpL_trans : ∀ x y z : List Nat, cmpL x y ≤ 0 → cmpL y z ≤ 0 → cmpL x z ≤ 0 ∧ (cmpL x y < 0 ∨ cmpL y z < 0 → cmpL x z < 0)
  | [], [], [] => by simp [cmpL]
  | [], [], _ :: _ => by simp [cmpL]
  | [], _ :: _, [] => by simp [cmpL]
  | [], _ :: _, _ :: _ => by simp [cmpL]
  | _ :: _, [], _ => by simp [cmpL]
  | _ :: _, _ :: _, [] => by intro _ h; simp [cmpL] at h
  | a :: x, b :: y, c :: z => by
    have ih := cmpL_trans x y z
    intro h1 h2
    unfold cmpL at h1 h2 ⊢
    by_cases ab : a < b
    · by_cases bc : c < b
      · rw [if_neg (by omega), if_pos bc] at h2; omega
      · rw [if_pos (show a < c by omega)]; exact ⟨by omega, fun _ => by omega⟩
    · by_cases ba : b < a
      · rw [if_neg ab, if_pos ba] at h1; omega
      · rw [if_neg ab, if_neg ba] at h1 ⊢
        have e : a = b := by omega
        subst e
        by_cases ac : a < c
        · rw [if_pos ac]; exact ⟨by omega, fun _ => by omega⟩
        · by_cases ca : c < a
          · rw [if_neg ac, if_pos ca] at h2; omega
          · rw [if_neg ac, if_neg ca] at h2
            rw [if_neg ac, if_neg ca]
            rw [if_neg ac, if_neg ca]
            exact ih h1 h2

end Go.Proofs.YtgmeagkolahkoaaDoor

/- Sums compared by their bytes: plainly; the walks of bytes.Compare and Sum.Cmp. -/
namespace Go.Proofs.YtgmeagkolahkoaaDoor
open Go.RowKit

theorem cmpL_bytes : ∀ (x y : List Nat), (∀ a ∈ x, a < 256) → (∀ a ∈ y, a < 256) → Lib.compareBytes (bytesU x) (bytesU y) = cmpL x y
  | [], [], _, _ => rfl
  | [], _ :: _, _, _ => rfl
  | _ :: _, [], _, _ => rfl
  | a :: x, b :: y, hx, hy => by
    have ih := cmpL_bytes x y (fun z hz => hx z (by simp [hz])) (fun z hz => hy z (by simp [hz]))
    have ha := u8_toNat (hx a (by simp))
    have hb := u8_toNat (hy b (by simp))
    have h1 : (UInt8.ofNat a < UInt8.ofNat b) ↔ a < b := by rw [UInt8.lt_iff_toNat_lt, ha, hb]
    have h2 : (UInt8.ofNat b < UInt8.ofNat a) ↔ b < a := by rw [UInt8.lt_iff_toNat_lt, ha, hb]
    show (if UInt8.ofNat a < UInt8.ofNat b then (-1 : Int) else if UInt8.ofNat b < UInt8.ofNat a then 1 else Lib.compareBytes (bytesU x) (bytesU y)) = _
    rw [ih]
    simp only [h1, h2, cmpL]

theorem run_bytesOf_rd {P : Program} (w : World) (A : Option Addr) (n cap : Nat) (l : List Nat) (hl : l.length = n) (hr : Rd w A (l.map bv)) (hA : A = none → n = 0) (hx : ∀ x ∈ l, x < 256) :
    (Extern.Bytes.bytesOf (.slice A n cap)).run P w = .ok ⟨(bytesU l).toArray⟩ w := by
  cases A with
  | none =>
    have : l = [] := List.eq_nil_of_length_eq_zero (by rw [hl]; exact hA rfl)
    subst this
    rfl
  | some a =>
    subst hl
    have h := Lib.run_loadBytesX (P := P) w (l.map Int.ofNat) a .empty (fun j x hj => by
      rw [List.getElem?_map] at hj
      obtain ⟨y, hy, rfl⟩ := Option.map_eq_some_iff.1 hj
      obtain ⟨ad, e, hc⟩ := hr j (bv y) (by rw [List.getElem?_map, hy]; rfl)
      injection e with e
      subst e
      exact hc)
    rw [List.length_map] at h
    have e : Lib.bytesOf (l.map Int.ofNat) = bytesU l := by
      unfold Lib.bytesOf bytesU
      rw [List.map_map]
      apply List.map_congr_left
      intro x _
      rfl
    rw [e] at h
    simp only [Extern.Bytes.bytesOf]
    rw [h]
    congr 1
    apply ByteArray.ext
    simp
set_option maxRecDepth 100000 in
theorem Compare_any (A B : Option Addr) (n m c d : Nat) (x y : List Nat) (w : World) (hx : x.length = n) (hy : y.length = m) (hr1 : Rd w A (x.map bv)) (hr2 : Rd w B (y.map bv)) (hA : A = none → n = 0) (hB : B = none → m = 0) (h1 : ∀ a ∈ x, a < 256) (h2 : ∀ a ∈ y, a < 256) :
    Calls Tryd.prog 68 #[.slice A n c, .slice B m d] w fun e w' => e = .returned (.int .i64 (cmpL x y)) ∧ w' = w := by
  have hrun : (Extern.BytealgCompare.compare #[.slice A n c, .slice B m d]).run Tryd.prog w = .ok (.int .i64 (cmpL x y)) w := by
    change Sem.run Tryd.prog (do pure (goInt (Extern.BytealgCompare.cmp (← Extern.Bytes.bytesOf (.slice A n c)) (← Extern.Bytes.bytesOf (.slice B m d))))) w = _
    rw [Sem.run_bind, run_bytesOf_rd w A n c x hx hr1 hA h1]
    simp only [Result.andThen_ok]
    rw [Sem.run_bind, run_bytesOf_rd w B m d y hy hr2 hB h2]
    simp only [Result.andThen_ok, Sem.run_pure]
    rw [Lib.cmp_eq, ← cmpL_bytes x y h1 h2]
    rfl
  have HR := Lib.hid hrun
  clear hrun
  go_enter Tryd.func68, Tryd.ntmps68
  go_wp2
  rw [run_callFunc_extern Tryd.func96 (by kernel_rfl) (by kernel_rfl) (by kernel_rfl) (e := Extern.BytealgCompare.compare) (by kernel_rfl), HR.out]
  simp only [Result.andThen]
  rw [Oper.upon_value]
  go_wp2
  go_ret
  exact ⟨rfl, rfl⟩
end Go.Proofs.YtgmeagkolahkoaaDoor

/- The walk of tallymanref1.Cmp. -/
namespace Go.Proofs.YtgmeagkolahkoaaDoor
open Go.RowKit

theorem cmpL_drop (x y : List Nat) (k : Nat) (hx : k < x.length) (hy : k < y.length) :
    cmpL (x.drop k) (y.drop k) = if x.getD k 0 < y.getD k 0 then -1 else if y.getD k 0 < x.getD k 0 then 1 else cmpL (x.drop (k + 1)) (y.drop (k + 1)) := by
  rw [List.drop_eq_getElem_cons hx, List.drop_eq_getElem_cons hy]
  simp [cmpL, List.getD, List.getElem?_eq_getElem hx, List.getElem?_eq_getElem hy]

set_option maxRecDepth 100000 in
set_option maxHeartbeats 1000000 in
theorem R1Cmp_l (x y : List Nat) (hx : x.length = 32) (hy : y.length = 32) (w : World) :
    Calls Tryd.prog 85 #[.agg (u8s x), .agg (u8s y)] w fun e w' => e = .returned (.int .i64 (cmpL x y)) ∧ Below w.heap.size w w' := by
  have h0 : Blk ((w.alloc (.cells (u8s x) 112)).alloc (.cells (u8s y) 112)) w.heap.size 112 (u8s x) := (Blk.new w _ _).alloc _
  have h1 : Blk ((w.alloc (.cells (u8s x) 112)).alloc (.cells (u8s y) 112)) (w.heap.size + 1) 112 (u8s y) := Blk.newAt (w.alloc _) _ _ _ (by simp)
  have hc0 : ∀ k, k < 32 → ((w.alloc (.cells (u8s x) 112)).alloc (.cells (u8s y) 112)).cell? ⟨w.heap.size, k, none⟩ = some (.int .u8 ((x.getD k 0 : Nat) : Int)) := fun k hk => by
    rw [h0.cell, u8s_get (by rw [hx]; exact hk)]
  have hc1 : ∀ k, k < 32 → ((w.alloc (.cells (u8s x) 112)).alloc (.cells (u8s y) 112)).cell? ⟨w.heap.size + 1, k, none⟩ = some (.int .u8 ((y.getD k 0 : Nat) : Int)) := fun k hk => by
    rw [h1.cell, u8s_get (by rw [hy]; exact hk)]
  have hb : Below w.heap.size w ((w.alloc (.cells (u8s x) 112)).alloc (.cells (u8s y) 112)) := (((Keeps.refl [] w).alloc _).alloc _).below
  have HX := Lib.hid hx
  have HY := Lib.hid hy
  clear h0 h1 hx hy
  generalize hX : u8s x = X at *
  generalize hY : u8s y = Y at *
  clear hX hY
  go_enter Tryd.func85, Tryd.ntmps85
  go_wp2
  go_loopw [5] (fun i wr => ∃ k : Nat, k ≤ 32 ∧ i = .int .i64 k ∧ cmpL x y = cmpL (x.drop k) (y.drop k) ∧ (∀ j, j < 32 → wr.cell? ⟨w.heap.size, j, none⟩ = some (.int .u8 ((x.getD j 0 : Nat) : Int))) ∧ (∀ j, j < 32 → wr.cell? ⟨w.heap.size + 1, j, none⟩ = some (.int .u8 ((y.getD j 0 : Nat) : Int))) ∧ Below w.heap.size w wr) (fun i _ => 32 - (intOf i).toNat)
  case atStart => exact ⟨0, by omega, rfl, rfl, hc0, hc1, hb⟩
  case round =>
    clear hc0 hc1 hb
    obtain ⟨k, hk, rfl, he, hc0, hc1, hb⟩ := hrel
    have H0 := Lib.hid hc0
    have H1 := Lib.hid hc1
    have HB := Lib.hid hb
    clear hc0 hc1 hb
    by_cases hk32 : k < 32
    · have c0 := H0.out k hk32
      have c1 := H1.out k hk32
      rw [cmpL_drop x y k (by rw [HX.out]; exact hk32) (by rw [HY.out]; exact hk32)] at he
      have HE := Lib.hid he
      clear he
      generalize x.getD k 0 = a at *
      generalize y.getD k 0 = b at *
      have r0 : (k : Int) < 32 := by omega
      have r1 : (0 : Int) ≤ (k : Int) := by omega
      by_cases hab : a < b
      · have e := HE.out
        rw [if_pos hab] at e
        clear HE
        have hi : (a : Int) < (b : Int) := by omega
        go_wp2
        go_quiet (fail)
        go_wp2
        go_ret
        exact ⟨by rw [e]; rfl, ((Keeps.of_below (S := []) HB.out).drewN _).below⟩
      · by_cases hba : b < a
        · have e := HE.out
          rw [if_neg hab, if_pos hba] at e
          clear HE
          have hi : ¬ (a : Int) < (b : Int) := by omega
          have hj : (b : Int) < (a : Int) := by omega
          go_wp2
          go_quiet (fail)
          go_wp2
          go_quiet (fail)
          go_wp2
          go_ret
          exact ⟨by rw [e]; rfl, (((Keeps.of_below (S := []) HB.out).drewN _).drewN _).below⟩
        · have e := HE.out
          rw [if_neg hab, if_neg hba] at e
          have HE2 := Lib.hid e
          clear HE e
          have hi : ¬ (a : Int) < (b : Int) := by omega
          have hj : ¬ (b : Int) < (a : Int) := by omega
          go_wp2
          go_quiet (fail)
          go_wp2
          go_quiet (fail)
          go_wp2
          go_roundw
          case rel => exact ⟨k + 1, by omega, by go_num, HE2.out, H0.out, H1.out, ((Keeps.of_below (S := []) HB.out).drewN _).below⟩
          case measure => simp [intOf]; omega
    · obtain rfl : k = 32 := by omega
      have e : cmpL x y = 0 := by rw [he, List.drop_eq_nil_of_le (by rw [HX.out]; omega), List.drop_eq_nil_of_le (by rw [HY.out]; omega)]; rfl
      clear he
      go_wp2
      go_ret
      exact ⟨by rw [e]; rfl, HB.out⟩
theorem R1Cmp_any (x y : Sm) (w : World) :
    Calls Tryd.prog 85 #[.agg (u8s x.l), .agg (u8s y.l)] w fun e w' => e = .returned (.int .i64 (cmpL x.l y.l)) ∧ Below w.heap.size w w' := R1Cmp_l x.l y.l x.len y.len w
end Go.Proofs.YtgmeagkolahkoaaDoor

/- Layer 10: the walks of Sum.Cmp, Equal, Good; of the document's own Same, Has, Good. -/
namespace Go.Proofs.YtgmeagkolahkoaaDoor
open Go.RowKit

theorem r1cmp_ty (x y : Sm) : Fn2 Tryd.prog 85 (Ty.ex (.agg (u8s x.l))) (Ty.ex (.agg (u8s y.l))) (Ty.ex (.int .i64 (cmpL x.l y.l))) :=
  ⟨fun args w => by kernel_rfl, fun w v u hv hu => by
    have hv : v = .agg (u8s x.l) := hv
    have hu : u = .agg (u8s y.l) := hu
    subst hv hu
    exact Ret.of (R1Cmp_any x y w)⟩

end Go.Proofs.YtgmeagkolahkoaaDoor

/- Layer 10: the walks of Equal, Same; of the document's own Same, Has. -/
namespace Go.Proofs.YtgmeagkolahkoaaDoor
open Go.RowKit

theorem mem_get {L : List Sm} {x : Sm} : x ∈ L ↔ ∃ j, j < L.length ∧ L.getD j default = x := by
  constructor
  · intro h
    obtain ⟨j, hj, rfl⟩ := List.getElem_of_mem h
    exact ⟨j, hj, by simp [List.getD, List.getElem?_eq_getElem hj]⟩
  · rintro ⟨j, hj, rfl⟩
    simp only [List.getD, List.getElem?_eq_getElem hj, Option.getD_some]
    exact List.getElem_mem hj
set_option maxRecDepth 100000 in
theorem r10has_ty (L : List Sm) (x : Sm) (hL : L.length ≤ 1000000) : Fn2 Tryd.prog 57 (Ty.sums 112 L) (Ty.ex (.agg (u8s x.l))) (Ty.ex (.bool (decide (x ∈ L)))) := by
  refine ⟨fun args w => by kernel_rfl, fun w v u hv hu => ?_⟩
  refine enter_ty 18 [Ty.ex v, Ty.ex (.agg (u8s x.l))] Tryd.func57 rfl (by kernel_rfl) ⟨rfl, hu, trivial⟩ fun a hF => ?_
  have hB := Below.refl w.heap.size w
  repeat with_reducible refine wp_seq ?_
  refine' reg_all hF ?_ mixed (by kernel_rfl) ?_
  rotate_left
  · repeat (first | exact Line.nil | ((refine' Line.cons rfl (.run rfl rfl ?_) ?_); (any_goals (first | exact cBoxSum rfl rfl | exact cAssign rfl rfl)); rotate_left))
  intro a w1 hF hb hN
  replace hB := hB.trans (hb.mono hB.size)
  dsimp only [ext, Option.getD] at hF
  repeat with_reducible first | refine wp_seq ?_ | refine nThen ?_
  refine' reg_all hF ?_ mixed (by kernel_rfl) ?_
  rotate_left
  · repeat (first | exact Line.nil | ((refine' Line.cons rfl (.run rfl rfl ?_) ?_); (any_goals exact cAssign rfl rfl); rotate_left))
  intro a w2 hF hb hN
  replace hB := hB.trans (hb.mono hB.size)
  dsimp only [ext, Option.getD] at hF
  repeat with_reducible first | refine nThen ?_ | refine wp_block ?_
  refine loop_ty (fun m a wr => ∃ k : Nat, k + m = L.length ∧ Fr 18 [(0, Ty.ex v), (3, Ty.at_ 112 x.enc), (5, Ty.ex (.int .i64 (k : Int)))] a wr ∧ Below w.heap.size w wr ∧ ∀ j, j < k → ¬ L.getD j default = x) L.length ?_ ?_
  · exact ⟨0, by omega, hF.keep [0, 3, 5], hB, fun j hj => by omega⟩
  clear hF hB
  rintro m a wr ⟨k, hk, hF, hB, hlo⟩
  repeat with_reducible refine wp_seq ?_
  refine' reg_all hF ?_ mixed (by kernel_rfl) ?_
  rotate_left
  · repeat (first | exact Line.nil | ((refine' Line.cons rfl (.run rfl rfl ?_) ?_); (any_goals (first | exact cLenH rfl (.l rfl ((Ty.sums 112 L).below hv hB)) (Ty.sl_isSl _ _ _) Tryd.underlying76 | exact cMove rfl rfl | exact cLss rfl rfl rfl)); rotate_left))
  intro a w4 hF hb hN
  replace hB := hB.trans (hb.mono hB.size)
  dsimp only [ext, Option.getD] at hF
  repeat with_reducible refine nThen ?_
  refine cond_ty hF rfl (fun hlt => ?_) (fun hge => ?_)
  · have hlt : k < L.length := by simpa using hlt
    repeat with_reducible first | refine wp_seq ?_ | refine nThen ?_ | refine wp_skip ?_ | refine wp_block ?_
    refine' reg_all hF ?_ mixed (by kernel_rfl) ?_
    rotate_left
    · repeat (first | exact Line.nil | ((refine' Line.cons rfl (.run rfl rfl ?_) ?_); (any_goals (first | exact cIndexSum (k := k) rfl (.l rfl ((Ty.sums 112 L).below hv hB)) rfl Tryd.underlying76 sizeR hlt | exact cLoadSum rfl (.t rfl) Tryd.underlying112 sizeR | exact cEqlAgg rfl rfl rfl guardR (eqlR _ _) | exact cMove rfl rfl)); rotate_left))
    intro a w6 hF hb hN
    replace hB := hB.trans (hb.mono hB.size)
    dsimp only [ext, Option.getD] at hF
    repeat with_reducible refine nThen ?_
    refine cond_ty hF rfl (fun hok => ?_) (fun hbad => ?_)
    · have hok : L.getD k default = x := by simpa using hok
      repeat with_reducible refine wp_seq ?_
      refine' reg_all hF ?_ mixed (by kernel_rfl) ?_
      rotate_left
      · repeat (first | exact Line.nil | ((refine' Line.cons rfl (.run rfl rfl ?_) ?_); (any_goals exact cAssign rfl rfl); rotate_left))
      intro a w7 hF hb hN
      replace hB := hB.trans (hb.mono hB.size)
      dsimp only [ext, Option.getD] at hF
      repeat with_reducible first | refine nThen ?_ | refine wp_ret ?_ | refine rThen ?_ | refine rBlk ?_
      refine ret1 hF rfl rfl fun z hz => ?_
      exact ⟨z, rfl, by rw [decide_eq_true (mem_get.2 ⟨k, hlt, hok⟩)]; exact hz, hB⟩
    · have hbad : ¬ L.getD k default = x := by simpa using hbad
      repeat with_reducible first | refine nThen ?_ | refine nBlk ?_ | refine wp_skip ?_
      refine' reg_all hF ?_ mixed (by kernel_rfl) ?_
      rotate_left
      · repeat (first | exact Line.nil | ((refine' Line.cons rfl (.run rfl rfl ?_) ?_); (any_goals (first | exact cAdd (r := ((k + 1 : Nat) : Int)) rfl rfl rfl (by omega) | exact cMove rfl rfl | exact cAssign rfl rfl)); rotate_left))
      intro a w7 hF hb hN
      replace hB := hB.trans (hb.mono hB.size)
      dsimp only [ext, Option.getD] at hF
      repeat with_reducible refine nThen ?_
      refine ⟨m - 1, by omega, k + 1, by omega, hF.keep [0, 3, 5], hB, fun j hj => ?_⟩
      by_cases hjk : j < k
      · exact hlo j hjk
      · obtain rfl : j = k := by omega
        exact hbad
  · have hge : ¬ k < L.length := by simpa using hge
    repeat with_reducible first | refine wp_seq ?_ | refine nThen ?_ | refine wp_exit ?_ | refine xThen ?_ | refine xHere ?_
    refine' reg_all hF ?_ mixed (by kernel_rfl) ?_
    rotate_left
    · repeat (first | exact Line.nil | ((refine' Line.cons rfl (.run rfl rfl ?_) ?_); (any_goals exact cAssign rfl rfl); rotate_left))
    intro a w5 hF hb hN
    replace hB := hB.trans (hb.mono hB.size)
    dsimp only [ext, Option.getD] at hF
    repeat with_reducible first | refine nThen ?_ | refine wp_ret ?_
    refine ret1 hF rfl rfl fun z hz => ?_
    exact ⟨z, rfl, by rw [decide_eq_false (fun h => let ⟨j, h1, h2⟩ := mem_get.1 h; hlo j (by omega) h2)]; exact hz, hB⟩

end Go.Proofs.YtgmeagkolahkoaaDoor

/- Layer 10: the walks of Clone, Grow, Concat. -/
namespace Go.Proofs.YtgmeagkolahkoaaDoor
open Go.RowKit

set_option maxRecDepth 100000 in
theorem cloneS_ty (L : List Sm) (hL : L.length ≤ 1000000) : FnSeg1 Tryd.prog 36 (Ty.sums 25 L) 25 32 L.length (flat L) := by
  refine ⟨fun args w => by kernel_rfl, fun w v hv => ?_⟩
  have hv' := hv
  obtain ⟨A, c, rfl, hnc, hcm, hA, hr⟩ := hv'
  refine enter_ty 8 [Ty.ex (.slice A L.length c)] Tryd.func36 rfl (by kernel_rfl) ⟨rfl, trivial⟩ fun a hF => ?_
  have hB := Below.refl w.heap.size w
  repeat with_reducible refine wp_seq ?_
  refine' reg_all hF ?_ mixed (by kernel_rfl) ?_
  rotate_left
  · repeat (first | exact Line.nil | ((refine' Line.cons rfl (.run rfl rfl ?_) ?_); (any_goals exact cAssign rfl rfl); rotate_left))
  intro a w1 hF hb hN
  have hBs := hB.size
  replace hB := hB.trans (hb.mono hB.size)
  dsimp only [ext, Option.getD] at hF
  repeat with_reducible first | refine wp_seq ?_ | refine nThen ?_
  refine' reg_all hF ?_ mixed (by kernel_rfl) ?_
  rotate_left
  · repeat (first | exact Line.nil | ((refine' Line.cons rfl (.run rfl rfl ?_) ?_); (any_goals (first | exact cEqlNil rfl rfl Tryd.underlying33 | exact cMove rfl rfl)); rotate_left))
  intro a w2 hF hb hN
  have hBs := hB.size
  replace hB := hB.trans (hb.mono hB.size)
  dsimp only [ext, Option.getD] at hF
  repeat with_reducible refine nThen ?_
  refine cond_ty hF rfl (fun h0 => ?_) (fun h1 => ?_)
  · have h0 : A = none := by cases A <;> simp at h0 ⊢
    have hl : L = [] := List.eq_nil_of_length_eq_zero (hA h0).1
    subst hl
    repeat with_reducible refine wp_seq ?_
    refine' reg_all hF ?_ mixed (by kernel_rfl) ?_
    rotate_left
    · repeat (first | exact Line.nil | ((refine' Line.cons rfl (.run rfl rfl ?_) ?_); (any_goals exact cAssign rfl rfl); rotate_left))
    intro a w3 hF hb hN
    have hBs := hB.size
    replace hB := hB.trans (hb.mono hB.size)
    dsimp only [ext, Option.getD] at hF
    repeat with_reducible first | refine nThen ?_ | refine wp_ret ?_ | refine rThen ?_
    refine ret1 hF rfl rfl fun z hz => ?_
    have hz : z = .slice none 0 0 := hz
    subst hz
    exact ⟨_, rfl, ⟨[], Seg.nil _ _ _, by simp⟩, hB⟩
  · repeat with_reducible first | refine wp_seq ?_ | refine nThen ?_ | refine wp_skip ?_
    refine' region_ty 2 mixed (by kernel_rfl) hF ?_ ?_
    rotate_left
    · simp only [List.take_succ_cons, List.take_zero]
      repeat (first | exact Line.nil | ((refine' Line.cons rfl (.run rfl rfl ?_) ?_); (any_goals (first | exact cBuild0 rfl Tryd.underlying33 infoS | exact cMove rfl rfl)); rotate_left))
    intro a w3 hF hb hN
    have hBs := hB.size
    replace hB := hB.trans (hb.mono hB.size)
    simp only [List.take_succ_cons, List.take_zero, List.drop_succ_cons, List.drop_zero] at hF hN ⊢
    dsimp only [ext, Option.getD] at hF
    obtain ⟨u, ⟨S, hseg, hS⟩, hF⟩ := hF.open (s := 5) rfl
    refine tlAppend (Δ := []) hF rfl rfl rfl rfl Tryd.underlying33 infoS zero32_size rfl hseg (.l (v := .slice A L.length c) rfl ((Ty.sums 25 L).below hv hB)) sl_news (flat_len _) flat_one' (by simp [maxLen]; omega) (by simp; omega) hF.nil rfl ?_
    intro a w4 u' S' hF hseg' hk2 hS'
    have hbS : ∀ y ∈ S', w.heap.size ≤ y := own_next hB (fun y hy => Nat.le_trans hBs (hS y hy)) hS'
    replace hB := below_own hB hk2 (fun y hy => Nat.le_trans hBs (hS y hy))
    refine' tlOp hF rfl rfl rfl ?_ ?_
    rotate_left
    · exact cAssign rfl rfl
    intro a w5 hF hb
    have hBs := hB.size
    replace hB := hB.trans (hb.mono hB.size)
    try (refine wpList_nil ?_)
    repeat with_reducible first | refine nThen ?_ | refine wp_ret ?_
    refine ret1 hF rfl rfl fun z hz => ?_
    have hz : z = u' := hz
    subst hz
    rw [Nat.zero_add, List.nil_append] at hseg'
    exact ⟨_, rfl, ⟨S', hseg'.below hb, hbS⟩, hB⟩
theorem zeroS_one : ∀ u ∈ (Value.agg (u8s (List.replicate 32 0))).cells.toList, u.oneCell' = true := by
  intro u hu
  have h : u ∈ (u8s (List.replicate 32 0)).toList := hu
  rw [u8s_list] at h
  obtain ⟨b, _, rfl⟩ := List.mem_map.1 h
  rfl
end Go.Proofs.YtgmeagkolahkoaaDoor

/- Layer 15 by types: rows of cells, tables; Clone; Good, New. -/
namespace Go.Proofs.YtgmeagkolahkoaaDoor
open Go.RowKit

/-! ### Rows of cells -/
abbrev Ty.cls (e : TypeId) (L : List Cl) : Ty := Ty.sl e L.length (flatC L)
theorem cIndexCl {P : Program} {w0 : World} {Γ : Ctx} {o : Oper} {t e : TypeId} {x ix : Operand} {k : Nat} {kd : IntKind} {L : List Cl} (ho : o.op = .indexAddr t x ix) (hx : Has w0 Γ x (Ty.cls e L)) (hi : OpT Γ ix (Ty.ex (.int kd (k : Int)))) (hu : P.underlying t = some (.slice e)) (hz : (P.info? e).map (·.size) = some 65) (hk : k < L.length) : OpOk P w0 Γ o (Ty.at_ e (L.getD k default).enc) := by
  have h := cIndexS (P := P) ho hx hi hu hz hk (by rw [flatC_len]; omega)
  rw [flatC_at L hk] at h
  exact h.conv at_pre
theorem cBuildCl1 {P : Program} {w0 : World} {Γ : Ctx} {o : Oper} {t e : TypeId} {z : Value} {bytes : Nat} {y : Operand} {c : Cl} (ho : o.op = .buildSlice t 1 #[(0, y)]) (hy : OpT Γ y (Ty.ex (.agg c.a))) (hu : P.underlying t = some (.slice e)) (hi : (P.info? e).map (fun i => (i.zero, i.size, i.bytes)) = some (some z, 65, bytes)) : OpOk P w0 Γ o (Ty.sl e 1 (flatC [c])) := by
  have h := cBuildV (P := P) (w0 := w0) (vs := [.agg c.a]) ho (parts1v ho hy) hu hi rfl (by
    intro v hv
    simp only [List.mem_singleton] at hv
    subst hv
    exact c.size) (by decide) (by simp [maxLen])
  rwa [show (([.agg c.a] : List Value).map fun v => v.cells.toList).flatten = flatC [c] by simp [flatC, Value.cells, Cl.a]] at h
theorem zero65_cells : (Value.agg Cl.zero.a).cells.size = 65 := Cl.zero.size
/-- make([]Cell, n) -/
theorem made_cells (n : Nat) : (madeCells (Value.agg Cl.zero.a).cells (n * 65)).toList = flatC (tzero n) := by
  apply List.ext_getElem?
  intro j
  have hz : (Value.agg Cl.zero.a).cells = Cl.zero.enc.toArray := rfl
  rw [hz]
  unfold madeCells
  by_cases hj : j < n * 65
  · have h1 : (flatC (tzero n))[j]? = (flatC ((tzero n).drop (j / 65)))[j % 65]? := by
      rw [← flatC_drop, List.getElem?_drop]
      congr 1
      omega
    have h2 : j / 65 < n := by omega
    have h3 : (tzero n).drop (j / 65) = Cl.zero :: tzero (n - j / 65 - 1) := by
      unfold tzero
      rw [List.drop_replicate, show n - j / 65 = (n - j / 65 - 1) + 1 by omega, List.replicate_succ]
      rfl
    have h4 : flatC (Cl.zero :: tzero (n - j / 65 - 1)) = Cl.zero.enc ++ flatC (tzero (n - j / 65 - 1)) := rfl
    have hl : Cl.zero.enc.length = 65 := Cl.enc_len _
    have hm : j % 65 < 65 := Nat.mod_lt _ (by omega)
    rw [h1, h3, h4, List.getElem?_append_left (by omega)]
    simp [hj, hl, hm]
  · rw [List.getElem?_eq_none (by simp; omega), List.getElem?_eq_none (by rw [flatC_len, tzero_len]; omega)]
theorem run_makeCells {P : Program} {t e : TypeId} (n : Nat) (hn : n ≤ 1000000) (ht : P.underlying t = some (.slice e)) (hi : (P.info? e).map (fun i => (i.zero, i.size, i.bytes)) = some (some (.agg Cl.zero.a), 65, 72)) (w : World) :
    (Instr.makeSlice t (.int .i64 (n : Int)) (.int .i64 (n : Int))).run P w = .ok (.slice (some ⟨w.heap.size, 0, none⟩) n n) (w.alloc (.cells (flatC (tzero n)).toArray e)) := by
  obtain ⟨i, h1, h2, h3, h4⟩ := info_parts hi
  have h := run_make (P := P) w t e i _ ht h1 h2 .i64 .i64 (n : Int) (n : Int) (by omega) (Int.le_refl _) (by rw [h4]; omega) (by omega)
  rw [Int.toNat_natCast, h3] at h
  rw [h]
  congr 3
  exact Array.toList_inj.1 (by rw [made_cells])
theorem cMakeCells {P : Program} {w0 : World} {Γ : Ctx} {o : Oper} {t e : TypeId} {x y : Operand} {n : Nat} (ho : o.op = .makeSlice t x y) (hx : OpT Γ x (Ty.ex (.int .i64 (n : Int)))) (hy : OpT Γ y (Ty.ex (.int .i64 (n : Int)))) (ht : P.underlying t = some (.slice e)) (hi : (P.info? e).map (fun i => (i.zero, i.size, i.bytes)) = some (some (.agg Cl.zero.a), 65, 72)) (hn : n ≤ 1000000) : OpOk P w0 Γ o (Ty.seg w0 e 65 (tzero n).length (flatC (tzero n))) :=
  .new fun a w hb hs => by
    rw [tzero_len]
    obtain ⟨u, h1, h2⟩ := hs x _ (by simp [ho, Op.operands]) hx
    obtain ⟨u', h3, h4⟩ := hs y _ (by simp [ho, Op.operands]) hy
    have h2 : u = .int .i64 (n : Int) := h2
    have h4 : u' = .int .i64 (n : Int) := h4
    have hl : (flatC (tzero n)).length = n * 65 := by rw [flatC_len, tzero_len]
    refine ⟨.slice (some ⟨w.heap.size, 0, none⟩) n n, w.alloc (.cells (flatC (tzero n)).toArray e), ⟨[w.heap.size], ?_, fun y hy => ?_⟩, ((Keeps.refl [] w).alloc _).below, ?_⟩
    · have h := Seg.ofBlk (w := w.alloc (.cells (flatC (tzero n)).toArray e)) (sz := 65) (cap := n) (Blk.new w e (flatC (tzero n)).toArray) (by simpa using hl) (by simp [maxLen]; omega)
      simpa using h
    · simp only [List.mem_singleton] at hy
      subst hy
      exact hb.size
    · unfold execOp
      simp only [ho, h1, h2, h3, h4]
      rw [Sem.run_bind, run_makeCells n hn ht hi]
      rfl

/-! ### Tables -/
/-- A table that is read. -/
def Ty.tab (e : TypeId) (seed : Nat) (L : List Cl) : Ty := ⟨fun w v => ∃ s, v = .agg #[.int .u64 (seed : Int), s] ∧ SlP w e s L.length (flatC L), fun t => t == e, fun ⟨s, h1, h2⟩ k hA => ⟨s, h1, (Ty.cls e L).st h2 k hA⟩⟩
/-- A table whose cells are the call's own. -/
def Ty.tabO (w0 : World) (e : TypeId) (seed : Nat) (L : List Cl) : Ty := ⟨fun w v => ∃ s, v = .agg #[.int .u64 (seed : Int), s] ∧ (Ty.seg w0 e 65 L.length (flatC L)).p w s, fun t => t == e, fun ⟨s, h1, h2⟩ k hA => ⟨s, h1, (Ty.seg _ e 65 L.length (flatC L)).st h2 k hA⟩⟩
theorem tabO_tab {w0 : World} {e : TypeId} {seed : Nat} {L : List Cl} : ∀ w v, (Ty.tabO w0 e seed L).p w v → (Ty.tab e seed L).p w v := fun _ _ ⟨s, h1, h2⟩ => ⟨s, h1, seg_sl _ _ h2⟩
theorem tabO_old {w1 w2 : World} (hs : w1.heap.size ≤ w2.heap.size) {e : TypeId} {seed : Nat} {L : List Cl} : ∀ w v, (Ty.tabO w2 e seed L).p w v → (Ty.tabO w1 e seed L).p w v := fun _ _ ⟨s, h1, h2⟩ => ⟨s, h1, seg_old hs _ _ h2⟩
theorem cBoxTab {P : Program} {w0 : World} {Γ : Ctx} {o : Oper} {t : TypeId} {x : Operand} {u s : Value} (ho : o.op = .box t x) (hx : OpT Γ x (Ty.ex (.agg #[u, s]))) : OpOk P w0 Γ o (Ty.at_ t [u, s]) := cBox ho hx
theorem size_u64 : (Tryd.prog.info? 22).map (·.size) = some 1 := by kernel_rfl
section
variable {w0 : World} {Γ : Ctx} {o : Oper} {x : Operand} {e : TypeId} {u s : Value}
theorem size_row46 : (Tryd.prog.info? 36).map (·.size) = some 1 := by kernel_rfl
theorem sizeT46 : (Tryd.prog.info? 38).map (·.size) = some 2 := by kernel_rfl
theorem infoT46 : (Tryd.prog.info? 38).map (fun i => (i.zero, i.size, i.bytes)) = some (some (.agg #[.int .u64 0, .slice none 0 0]), 2, 32) := by kernel_rfl
theorem cFldS46 (ho : o.op = .fieldAddr 38 x 0) (hx : Has w0 Γ x (Ty.at_ e [u, s])) : OpOk Tryd.prog w0 Γ o (Ty.at_ e [u, s]) :=
  (cFieldE (P := Tryd.prog) ho hx Tryd.underlying38 rfl size_u64).conv fun _ _ h => h
theorem cFldL46 (ho : o.op = .fieldAddr 38 x 1) (hx : Has w0 Γ x (Ty.at_ e [u, s])) : OpOk Tryd.prog w0 Γ o (Ty.at_ e [s]) :=
  (cFieldE (P := Tryd.prog) ho hx Tryd.underlying38 rfl size_row46).conv fun _ _ h => h
theorem cRowOf46 (ho : o.op = .load 36 x) (hx : Has w0 Γ x (Ty.at_ e [s])) : OpOk Tryd.prog w0 Γ o (Ty.ex s) := cLoad1 ho hx (pts_at _ _) Tryd.underlying36 rfl
theorem cLoadT46 (ho : o.op = .load 38 x) (hx : Has w0 Γ x (Ty.at_ e [u, s])) : OpOk Tryd.prog w0 Γ o (Ty.ex (.agg #[u, s])) := cLoadAll (cs := #[u, s]) ho hx Tryd.underlying38 rfl sizeT46
theorem buildTA46 (n : Int) (A : Option Addr) (l c : Nat) (w : World) : (Instr.build 38 #[(0, .int .u64 n), (1, .slice A l c)]).run Tryd.prog w = .ok (.agg #[.int .u64 n, .slice A l c]) w := by
  have hz : (zeroValue 38).run Tryd.prog w = .ok (.agg #[.int .u64 0, .slice none 0 0]) w := by kernel_rfl
  have hu := run_underlying Tryd.underlying38 w
  have h1 := Tryd.sizeOf22 w
  simp only [Instr.build, Sem.run_bind, hz, Result.andThen_ok, hu]
  simp [h1, Instr.fill, Value.cells]
theorem buildT46 (n : Int) {s : Value} (hs : ∃ A l c, s = .slice A l c) (w : World) : (Instr.build 38 #[(0, .int .u64 n), (1, s)]).run Tryd.prog w = .ok (.agg #[.int .u64 n, s]) w := by
  obtain ⟨A, l, c, rfl⟩ := hs
  exact buildTA46 n A l c w
theorem buildT046 (w : World) : (Instr.build 38 #[]).run Tryd.prog w = .ok (.agg #[.int .u64 0, .slice none 0 0]) w := by kernel_rfl
theorem size_row83 : (Tryd.prog.info? 70).map (·.size) = some 1 := by kernel_rfl
theorem sizeT83 : (Tryd.prog.info? 72).map (·.size) = some 2 := by kernel_rfl
theorem infoT83 : (Tryd.prog.info? 72).map (fun i => (i.zero, i.size, i.bytes)) = some (some (.agg #[.int .u64 0, .slice none 0 0]), 2, 32) := by kernel_rfl
theorem cFldS83 (ho : o.op = .fieldAddr 72 x 0) (hx : Has w0 Γ x (Ty.at_ e [u, s])) : OpOk Tryd.prog w0 Γ o (Ty.at_ e [u, s]) :=
  (cFieldE (P := Tryd.prog) ho hx Tryd.underlying72 rfl size_u64).conv fun _ _ h => h
theorem cFldL83 (ho : o.op = .fieldAddr 72 x 1) (hx : Has w0 Γ x (Ty.at_ e [u, s])) : OpOk Tryd.prog w0 Γ o (Ty.at_ e [s]) :=
  (cFieldE (P := Tryd.prog) ho hx Tryd.underlying72 rfl size_row83).conv fun _ _ h => h
theorem cRowOf83 (ho : o.op = .load 70 x) (hx : Has w0 Γ x (Ty.at_ e [s])) : OpOk Tryd.prog w0 Γ o (Ty.ex s) := cLoad1 ho hx (pts_at _ _) Tryd.underlying70 rfl
theorem cLoadT83 (ho : o.op = .load 72 x) (hx : Has w0 Γ x (Ty.at_ e [u, s])) : OpOk Tryd.prog w0 Γ o (Ty.ex (.agg #[u, s])) := cLoadAll (cs := #[u, s]) ho hx Tryd.underlying72 rfl sizeT83
theorem buildTA83 (n : Int) (A : Option Addr) (l c : Nat) (w : World) : (Instr.build 72 #[(0, .int .u64 n), (1, .slice A l c)]).run Tryd.prog w = .ok (.agg #[.int .u64 n, .slice A l c]) w := by
  have hz : (zeroValue 72).run Tryd.prog w = .ok (.agg #[.int .u64 0, .slice none 0 0]) w := by kernel_rfl
  have hu := run_underlying Tryd.underlying72 w
  have h1 := Tryd.sizeOf22 w
  simp only [Instr.build, Sem.run_bind, hz, Result.andThen_ok, hu]
  simp [h1, Instr.fill, Value.cells]
theorem buildT83 (n : Int) {s : Value} (hs : ∃ A l c, s = .slice A l c) (w : World) : (Instr.build 72 #[(0, .int .u64 n), (1, s)]).run Tryd.prog w = .ok (.agg #[.int .u64 n, s]) w := by
  obtain ⟨A, l, c, rfl⟩ := hs
  exact buildTA83 n A l c w
theorem buildTs83 (n : Int) (w : World) : (Instr.build 72 #[(0, .int .u64 n)]).run Tryd.prog w = .ok (.agg #[.int .u64 n, .slice none 0 0]) w := by
  have hz : (zeroValue 72).run Tryd.prog w = .ok (.agg #[.int .u64 0, .slice none 0 0]) w := by kernel_rfl
  have hu := run_underlying Tryd.underlying72 w
  have h1 := Tryd.sizeOf22 w
  simp only [Instr.build, Sem.run_bind, hz, Result.andThen_ok, hu]
  simp [h1, Instr.fill, Value.cells]
theorem buildT083 (w : World) : (Instr.build 72 #[]).run Tryd.prog w = .ok (.agg #[.int .u64 0, .slice none 0 0]) w := by kernel_rfl
theorem cLoadU64 (ho : o.op = .load 22 x) {xs : List Value} (hx : Has w0 Γ x (Ty.at_ e (u :: xs))) : OpOk Tryd.prog w0 Γ o (Ty.ex u) := cLoad1 ho hx (pts_at _ _) Tryd.underlying22 rfl
end
section
variable {P : Program} {w0 : World} {Γ : Ctx} {o : Oper}
/-- A call through a function value, of one argument. -/
theorem cCallV1 {f : FuncId} {ats : Array TypeId} {x0 x : Operand} {τ ρ : Ty} (ho : o.op = .call { callee := .value x0, args := #[x], argTypes := ats }) (h0 : OpT Γ x0 (Ty.ex (.func (.func f) #[] #[]))) (hx : Has w0 Γ x τ) (hc : Fn1 P f τ ρ) : OpOk P w0 Γ o ρ :=
  .call fun a w hb hs => by
    obtain ⟨v0, k1, k2⟩ := hs x0 _ (by simp [ho, Op.operands, Call.operands]) h0
    have k2 : v0 = .func (.func f) #[] #[] := k2
    obtain ⟨v, h1, h2⟩ := hx.see hs (by simp [ho, Op.operands, Call.operands]) hb
    refine ⟨f, #[v], ?_, hc.ret w v h2⟩
    rw [exec_goV a.eval ho (k1.trans k2)]
    simp only [List.map_toArray, List.map_cons, List.map_nil, h1, Array.append_empty]
    exact hc.en _ w
/-- Calls whose result hangs on the world in which they began. -/
structure FnR1 (P : Program) (f : FuncId) (τ : Ty) (ρ : World → Ty) : Prop where
  en : Enters P f
  ret : ∀ w v, τ.p w v → Ret P f #[v] w (ρ w)
structure FnR2 (P : Program) (f : FuncId) (τ σ : Ty) (ρ : World → Ty) : Prop where
  en : Enters P f
  ret : ∀ w v u, τ.p w v → σ.p w u → Ret P f #[v, u] w (ρ w)
structure FnR3 (P : Program) (f : FuncId) (τ σ υ : Ty) (ρ : World → Ty) : Prop where
  en : Enters P f
  ret : ∀ w v u z, τ.p w v → σ.p w u → υ.p w z → Ret P f #[v, u, z] w (ρ w)
def Olds (ρ : World → Ty) : Prop := ∀ {w1 w2 : World}, w1.heap.size ≤ w2.heap.size → ∀ w v, (ρ w2).p w v → (ρ w1).p w v
theorem goodN_rng {n : Int} (h : goodN n = true) : ∃ N : Nat, n = (N : Int) ∧ 3 ≤ N ∧ N ≤ 1024 := by
  have := of_decide_eq_true h
  exact ⟨n.toNat, by omega, by omega, by omega⟩
theorem cCallR1 {f : FuncId} {ats : Array TypeId} {x : Operand} {τ : Ty} {ρ : World → Ty} (ho : o.op = .call { callee := .value (.func f), args := #[x], argTypes := ats }) (hx : Has w0 Γ x τ) (hc : FnR1 P f τ ρ) (hρ : Olds ρ) : OpOk P w0 Γ o (ρ w0) :=
  .call fun a w hb hs => by
    obtain ⟨v, h1, h2⟩ := hx.see hs (by simp [ho, Op.operands, Call.operands]) hb
    refine ⟨f, #[v], ?_, (hc.ret w v h2).mono (hρ hb.size)⟩
    rw [exec_go a.eval ho rfl]
    simp only [List.map_toArray, List.map_cons, List.map_nil, h1]
    exact hc.en _ w
theorem cCallR2 {f : FuncId} {ats : Array TypeId} {x y : Operand} {τ σ : Ty} {ρ : World → Ty} (ho : o.op = .call { callee := .value (.func f), args := #[x, y], argTypes := ats }) (hx : Has w0 Γ x τ) (hy : Has w0 Γ y σ) (hc : FnR2 P f τ σ ρ) (hρ : Olds ρ) : OpOk P w0 Γ o (ρ w0) :=
  .call fun a w hb hs => by
    obtain ⟨v, h1, h2⟩ := hx.see hs (by simp [ho, Op.operands, Call.operands]) hb
    obtain ⟨u, h3, h4⟩ := hy.see hs (by simp [ho, Op.operands, Call.operands]) hb
    refine ⟨f, #[v, u], ?_, (hc.ret w v u h2 h4).mono (hρ hb.size)⟩
    rw [exec_go a.eval ho rfl]
    simp only [List.map_toArray, List.map_cons, List.map_nil, h1, h3]
    exact hc.en _ w
theorem cCallR3 {f : FuncId} {ats : Array TypeId} {x y z : Operand} {τ σ υ : Ty} {ρ : World → Ty} (ho : o.op = .call { callee := .value (.func f), args := #[x, y, z], argTypes := ats }) (hx : Has w0 Γ x τ) (hy : Has w0 Γ y σ) (hz : Has w0 Γ z υ) (hc : FnR3 P f τ σ υ ρ) (hρ : Olds ρ) : OpOk P w0 Γ o (ρ w0) :=
  .call fun a w hb hs => by
    obtain ⟨v, h1, h2⟩ := hx.see hs (by simp [ho, Op.operands, Call.operands]) hb
    obtain ⟨u, h3, h4⟩ := hy.see hs (by simp [ho, Op.operands, Call.operands]) hb
    obtain ⟨q, h5, h6⟩ := hz.see hs (by simp [ho, Op.operands, Call.operands]) hb
    refine ⟨f, #[v, u, q], ?_, (hc.ret w v u q h2 h4 h6).mono (hρ hb.size)⟩
    rw [exec_go a.eval ho rfl]
    simp only [List.map_toArray, List.map_cons, List.map_nil, h1, h3, h5]
    exact hc.en _ w
/-- A table built out of a row of one's own. -/
theorem cBuildTabO {t e : TypeId} {x y : Operand} {seed : Nat} {L : List Cl} (ho : o.op = .build t #[(0, x), (1, y)]) (hx : OpT Γ x (Ty.ex (.int .u64 (seed : Int)))) (hy : OpT Γ y (Ty.seg w0 e 65 L.length (flatC L))) (hr : ∀ (s : Value), (∃ A l c, s = .slice A l c) → ∀ w : World, (Instr.build t #[(0, .int .u64 (seed : Int)), (1, s)]).run P w = .ok (.agg #[.int .u64 (seed : Int), s]) w) : OpOk P w0 Γ o (Ty.tabO w0 e seed L) :=
  .val fun a w _ hs => by
    obtain ⟨v, h1, h2⟩ := hs x _ (by simp [ho, Op.operands]) hx
    obtain ⟨s, h3, h4⟩ := hs y _ (by simp [ho, Op.operands]) hy
    have h2 : v = .int .u64 (seed : Int) := h2
    subst h2
    have hf : ∃ A l c, s = .slice A l c := by
      obtain ⟨A, c, h, _⟩ := (seg_sl _ _ h4).form
      exact ⟨A, _, c, h⟩
    refine ⟨_, ⟨s, rfl, h4⟩, ?_⟩
    unfold execOp
    simp only [ho]
    have e1 : ((#[(0, x), (1, y)] : Array (Nat × Operand)).map fun (i, x) => (i, a.eval x)) = #[(0, .int .u64 (seed : Int)), (1, s)] := by simp [h1, h3]
    rw [e1, Sem.run_bind, hr s hf w]
    rfl
end
theorem tabO_olds (e : TypeId) (seed : Nat) (L : List Cl) : Olds fun w => Ty.tabO w e seed L := fun hs _ _ h => tabO_old hs _ _ h
set_option maxRecDepth 100000 in
theorem cloneC_ty (L : List Cl) (hL : L.length ≤ 1000000) : FnSeg1 Tryd.prog 48 (Ty.cls 27 L) 27 65 L.length (flatC L) := by
  refine ⟨fun args w => by kernel_rfl, fun w v hv => ?_⟩
  have hv' := hv
  obtain ⟨A, c, rfl, hnc, hcm, hA, hr⟩ := hv'
  refine enter_ty 8 [Ty.ex (.slice A L.length c)] Tryd.func48 rfl (by kernel_rfl) ⟨rfl, trivial⟩ fun a hF => ?_
  have hB := Below.refl w.heap.size w
  repeat with_reducible refine wp_seq ?_
  refine' reg_all hF ?_ mixed (by kernel_rfl) ?_
  rotate_left
  · repeat (first | exact Line.nil | ((refine' Line.cons rfl (.run rfl rfl ?_) ?_); (any_goals exact cAssign rfl rfl); rotate_left))
  intro a w1 hF hb hN
  have hBs := hB.size
  replace hB := hB.trans (hb.mono hB.size)
  dsimp only [ext, Option.getD] at hF
  repeat with_reducible first | refine wp_seq ?_ | refine nThen ?_
  refine' reg_all hF ?_ mixed (by kernel_rfl) ?_
  rotate_left
  · repeat (first | exact Line.nil | ((refine' Line.cons rfl (.run rfl rfl ?_) ?_); (any_goals (first | exact cMove rfl rfl | exact cEqlNil rfl rfl Tryd.underlying36)); rotate_left))
  intro a w2 hF hb hN
  have hBs := hB.size
  replace hB := hB.trans (hb.mono hB.size)
  dsimp only [ext, Option.getD] at hF
  repeat with_reducible refine nThen ?_
  refine cond_ty hF rfl (fun h0 => ?_) (fun h1 => ?_)
  · have h0 : A = none := by cases A <;> simp at h0 ⊢
    have hl : L = [] := List.eq_nil_of_length_eq_zero (hA h0).1
    subst hl
    repeat with_reducible refine wp_seq ?_
    refine' reg_all hF ?_ mixed (by kernel_rfl) ?_
    rotate_left
    · repeat (first | exact Line.nil | ((refine' Line.cons rfl (.run rfl rfl ?_) ?_); (any_goals exact cAssign rfl rfl); rotate_left))
    intro a w3 hF hb hN
    have hBs := hB.size
    replace hB := hB.trans (hb.mono hB.size)
    dsimp only [ext, Option.getD] at hF
    repeat with_reducible first | refine nThen ?_ | refine wp_ret ?_ | refine rThen ?_
    refine ret1 hF rfl rfl fun z hz => ?_
    have hz : z = .slice none 0 0 := hz
    subst hz
    exact ⟨_, rfl, ⟨[], Seg.nil _ _ _, by simp⟩, hB⟩
  · repeat with_reducible first | refine wp_seq ?_ | refine nThen ?_ | refine wp_skip ?_
    refine' region_ty 2 mixed (by kernel_rfl) hF ?_ ?_
    rotate_left
    · simp only [List.take_succ_cons, List.take_zero]
      repeat (first | exact Line.nil | ((refine' Line.cons rfl (.run rfl rfl ?_) ?_); (any_goals (first | exact cMove rfl rfl | exact cBuild0 rfl Tryd.underlying36 infoC34)); rotate_left))
    intro a w3 hF hb hN
    have hBs := hB.size
    replace hB := hB.trans (hb.mono hB.size)
    simp only [List.take_succ_cons, List.take_zero, List.drop_succ_cons, List.drop_zero] at hF hN ⊢
    dsimp only [ext, Option.getD] at hF
    obtain ⟨u, ⟨S, hseg, hS⟩, hF⟩ := hF.open (s := 5) rfl
    refine tlAppend (Δ := []) hF rfl rfl rfl rfl Tryd.underlying36 infoC34 zero65_cells rfl hseg (.l (v := .slice A L.length c) rfl ((Ty.cls 27 L).below hv hB)) sl_news (flatC_len _) flatC_one' (by simp [maxLen]; omega) (by omega) hF.nil rfl ?_
    intro a w4 u' S' hF hseg' hk2 hS'
    have hbS : ∀ y ∈ S', w.heap.size ≤ y := own_next hB (fun y hy => Nat.le_trans hBs (hS y hy)) hS'
    replace hB := below_own hB hk2 (fun y hy => Nat.le_trans hBs (hS y hy))
    refine' tlOp hF rfl rfl rfl ?_ ?_
    rotate_left
    · exact cAssign rfl rfl
    intro a w5 hF hb
    have hBs := hB.size
    replace hB := hB.trans (hb.mono hB.size)
    try (refine wpList_nil ?_)
    repeat with_reducible first | refine nThen ?_ | refine wp_ret ?_
    refine ret1 hF rfl rfl fun z hz => ?_
    have hz : z = u' := hz
    subst hz
    rw [Nat.zero_add, List.nil_append] at hseg'
    exact ⟨_, rfl, ⟨S', hseg'.below hb, hbS⟩, hB⟩
set_option maxRecDepth 100000 in
theorem tgood_ty (seed : Nat) (L : List Cl) : Fn1 Tryd.prog 47 (Ty.tab 27 seed L) (Ty.ex (.bool (goodN (L.length : Int)))) := by
  refine ⟨fun args w => by kernel_rfl, fun w v ⟨s, hv, hs⟩ => ?_⟩
  subst hv
  have hG := good14_ty (L.length : Int)
  refine enter_ty 7 [Ty.ex (.agg #[.int .u64 (seed : Int), s])] Tryd.func47 rfl (by kernel_rfl) ⟨rfl, trivial⟩ fun a hF => ?_
  have hB := Below.refl w.heap.size w
  repeat with_reducible refine wp_seq ?_
  refine' reg_all hF ?_ mixed (by kernel_rfl) ?_
  rotate_left
  · repeat (first | exact Line.nil | ((refine' Line.cons rfl (.run rfl rfl ?_) ?_); (any_goals (first | exact cAssign rfl rfl | exact cBoxTab rfl rfl)); rotate_left))
  intro a w1 hF hb hN
  have hBs := hB.size
  replace hB := hB.trans (hb.mono hB.size)
  dsimp only [ext, Option.getD] at hF
  repeat with_reducible first | refine wp_seq ?_ | refine nThen ?_
  have hs1 := (Ty.cls 27 L).below hs hB
  refine' reg_all hF ?_ mixed (by kernel_rfl) ?_
  rotate_left
  · repeat (first | exact Line.nil | ((refine' Line.cons rfl (.run rfl rfl ?_) ?_); (any_goals (first | exact cAssign rfl rfl | exact cFldL46 rfl (.t rfl) | exact cRowOf46 rfl (.t rfl) | exact cLenH rfl (.l rfl hs1) (Ty.sl_isSl _ _ _) Tryd.underlying36 | exact cCall1 rfl rfl hG)); rotate_left))
  intro a w2 hF hb hN
  have hBs := hB.size
  replace hB := hB.trans (hb.mono hB.size)
  dsimp only [ext, Option.getD] at hF
  repeat with_reducible first | refine nThen ?_ | refine wp_ret ?_
  refine ret1 hF rfl rfl fun z hz => ?_
  exact ⟨z, rfl, hz, hB⟩
/-- New cells, or none. -/
def newL (n : Int) : List Cl := if goodN n then tzero n.toNat else []
def newS (seed : Nat) (n : Int) : Nat := if goodN n then seed else 0
def newE (n : Int) : Value := .int .i64 (if goodN n then 0 else 1)
/-- A table with an error's number. -/
def Ty.tabE (w0 : World) (e : TypeId) (seed : Nat) (L : List Cl) (err : Value) : Ty := ⟨fun w v => ∃ u, v = .tuple #[u, err] ∧ (Ty.tabO w0 e seed L).p w u, fun t => t == e, fun ⟨u, h1, h2⟩ k hA => ⟨u, h1, (Ty.tabO _ e seed L).st h2 k hA⟩⟩
theorem tabE_old {w1 w2 : World} (hs : w1.heap.size ≤ w2.heap.size) {e : TypeId} {seed : Nat} {L : List Cl} {err : Value} : ∀ w v, (Ty.tabE w2 e seed L err).p w v → (Ty.tabE w1 e seed L err).p w v := fun _ _ ⟨u, h1, h2⟩ => ⟨u, h1, tabO_old hs _ _ h2⟩
theorem tabE_olds (e : TypeId) (seed : Nat) (L : List Cl) (err : Value) : Olds fun w => Ty.tabE w e seed L err := fun hs _ _ h => tabE_old hs _ _ h
end Go.Proofs.YtgmeagkolahkoaaDoor

/- Layer 15 by types: New, Zero. -/
namespace Go.Proofs.YtgmeagkolahkoaaDoor
open Go.RowKit

theorem tabCells (seed : Nat) (A : Option Addr) (l c : Nat) : (Value.agg #[.int .u64 (seed : Int), .slice A l c]).cells.all (·.oneCell') = true := by simp [Value.cells, Value.oneCell']
theorem sl_one {w : World} {e : TypeId} {v : Value} {n : Nat} {xs : List Value} (h : SlP w e v n xs) (seed : Nat) : (Value.agg #[.int .u64 (seed : Int), v]).cells.all (·.oneCell') = true := by
  obtain ⟨A, c, rfl, _⟩ := h
  exact tabCells seed A n c
theorem sl_isA {w : World} {e : TypeId} {v : Value} {n : Nat} {xs : List Value} (h : SlP w e v n xs) : ∃ A l c, v = .slice A l c := by
  obtain ⟨A, c, rfl, _⟩ := h
  exact ⟨A, n, c, rfl⟩
/-- A row's blocks are other ones than a variable of another type. -/
theorem seg_far {w : World} {e t : TypeId} {sz n g : Nat} {v : Value} {xs : List Value} {S : List Nat} {cs : Array Value} (h : Seg w e sz v n xs S) (hb : Blk w g t cs) (hne : (t == e) = false) : ∀ y ∈ S, y ∉ [g] := fun y hy hm => by
  simp only [List.mem_singleton] at hm
  subst hm
  obtain ⟨cs', fr, h1⟩ := h.blocks y hy hb.lt
  unfold Blk at hb
  rw [hb] at h1
  simp only [Option.some.injEq, Obj.cells.injEq] at h1
  rw [h1.2.1] at hne
  simp at hne
abbrev zeroT : Array Value := #[.int .u64 0, .slice none 0 0]
set_option maxRecDepth 100000 in
theorem tnew_ty (seed : Nat) (n : Int) : FnR2 Tryd.prog 16 (Ty.ex (.int .u64 (seed : Int))) (Ty.ex (.int .i64 n)) (fun w => Ty.tabE w 27 (newS seed n) (newL n) (newE n)) := by
  refine ⟨fun args w => by kernel_rfl, fun w v u hv hu => ?_⟩
  have hg := good14_ty n
  by_cases hgn : goodN n = true
  rotate_left
  · have hgn : goodN n = false := by simpa using hgn
    rw [hgn] at hg
    have e1 : newS seed n = 0 := by unfold newS; rw [hgn]; rfl
    have e2 : newL n = [] := by unfold newL; rw [hgn]; rfl
    have e3 : newE n = .int .i64 1 := by unfold newE; rw [hgn]; rfl
    rw [e1, e2, e3]
    refine enter_ty 14 [Ty.ex (.int .u64 (seed : Int)), Ty.ex (.int .i64 n)] Tryd.func16 rfl (by kernel_rfl) ⟨hv, hu, trivial⟩ fun a hF => ?_
    have hB := Below.refl w.heap.size w
    repeat with_reducible refine wp_seq ?_
    refine' reg_all hF ?_ mixed (by kernel_rfl) ?_
    rotate_left
    · repeat (first
          | exact Line.nil
          | (refine' Line.cons rfl (.new rfl rfl (run_alloc_i infoT46) rfl) ?_; rotate_left)
          | ((refine' Line.cons rfl (.run rfl rfl ?_) ?_)
             any_goals exact cAssign rfl rfl
             rotate_left))
    intro a w1 hF hb hN
    have hBs := hB.size
    replace hB := hB.trans (hb.mono hB.size)
    dsimp only [ext, Option.getD] at hF
    repeat with_reducible first | refine wp_seq ?_ | refine nThen ?_
    obtain ⟨z, ⟨gx, rfl, hgx, hbx⟩, hF⟩ := hF.open (s := 4) rfl
    refine' reg_all hF ?_ mixed (by kernel_rfl) ?_
    rotate_left
    · repeat (first | exact Line.nil | ((refine' Line.cons rfl (.run rfl rfl ?_) ?_); (any_goals (first | exact cMove rfl rfl | exact cNot rfl rfl | exact cCall1 rfl rfl hg)); rotate_left))
    intro a w2 hF hb hN
    have hBs := hB.size
    replace hB := hB.trans (hb.mono hB.size)
    dsimp only [ext, Option.getD] at hF
    repeat with_reducible refine nThen ?_
    replace hbx := hbx.below hb
    refine cond_t hF rfl ?_
    repeat with_reducible refine wp_seq ?_
    refine' region_ty 1 mixed (by kernel_rfl) hF ?_ ?_
    rotate_left
    · simp only [List.take_succ_cons, List.take_zero]
      repeat (first | exact Line.nil | ((refine' Line.cons rfl (.run rfl rfl ?_) ?_); (any_goals exact cBuildE rfl (fun w => buildT046 w)); rotate_left))
    intro a w3 hF hb hN
    have hBs := hB.size
    replace hB := hB.trans (hb.mono hB.size)
    simp only [List.take_succ_cons, List.take_zero, List.drop_succ_cons, List.drop_zero] at hF hN ⊢
    dsimp only [ext, Option.getD] at hF
    replace hbx := hbx.below hb
    refine tlStoreV (Δ := [(4, Ty.ex (.pointer (some ⟨gx, 0, none⟩)))]) hF rfl rfl rfl rfl (hF.getEx (s := 9) rfl) hbx rfl sizeT46 (tabCells 0 _ _ _) (hF.keep [4]) rfl ?_
    intro w4 hF hbx hkx
    replace hB := below_own hB hkx (by intro y hy; simp only [List.mem_singleton] at hy; omega)
    refine' tlOp hF rfl rfl rfl ?_ ?_
    rotate_left
    · exact cAssign rfl rfl
    intro a w5 hF hb
    have hBs := hB.size
    replace hB := hB.trans (hb.mono hB.size)
    try (refine wpList_nil ?_)
    repeat with_reducible first | refine nThen ?_ | refine wp_ret ?_ | refine rThen ?_
    replace hbx := hbx.below hb
    refine retCell2 hF rfl rfl rfl hbx Tryd.underlying38 rfl sizeT46 ?_
    exact ⟨_, rfl, ⟨_, rfl, _, rfl, [], Seg.nil _ _ _, by simp⟩, hB⟩
  obtain ⟨N, rfl, hN1, hN2⟩ := goodN_rng hgn
  rw [hgn] at hg
  have e1 : newS seed (N : Int) = seed := by unfold newS; rw [hgn]; rfl
  have e2 : newL (N : Int) = tzero N := by unfold newL; rw [hgn, Int.toNat_natCast]; rfl
  have e3 : newE (N : Int) = .int .i64 0 := by unfold newE; rw [hgn]; rfl
  rw [e1, e2, e3]
  refine enter_ty 14 [Ty.ex (.int .u64 (seed : Int)), Ty.ex (.int .i64 (N : Int))] Tryd.func16 rfl (by kernel_rfl) ⟨hv, hu, trivial⟩ fun a hF => ?_
  have hB := Below.refl w.heap.size w
  repeat with_reducible refine wp_seq ?_
  refine' reg_all hF ?_ mixed (by kernel_rfl) ?_
  rotate_left
  · repeat (first
        | exact Line.nil
        | (refine' Line.cons rfl (.new rfl rfl (run_alloc_i infoT46) rfl) ?_; rotate_left)
        | ((refine' Line.cons rfl (.run rfl rfl ?_) ?_)
           any_goals exact cAssign rfl rfl
           rotate_left))
  intro a w1 hF hb hN
  have hBs := hB.size
  replace hB := hB.trans (hb.mono hB.size)
  dsimp only [ext, Option.getD] at hF
  repeat with_reducible first | refine wp_seq ?_ | refine nThen ?_
  obtain ⟨z, ⟨gx, rfl, hgx, hbx⟩, hF⟩ := hF.open (s := 4) rfl
  refine' reg_all hF ?_ mixed (by kernel_rfl) ?_
  rotate_left
  · repeat (first | exact Line.nil | ((refine' Line.cons rfl (.run rfl rfl ?_) ?_); (any_goals (first | exact cMove rfl rfl | exact cNot rfl rfl | exact cCall1 rfl rfl hg)); rotate_left))
  intro a w2 hF hb hN
  have hBs := hB.size
  replace hB := hB.trans (hb.mono hB.size)
  dsimp only [ext, Option.getD] at hF
  repeat with_reducible refine nThen ?_
  replace hbx := hbx.below hb
  refine cond_f hF rfl ?_
  repeat with_reducible first | refine wp_seq ?_ | refine nThen ?_ | refine wp_skip ?_
  have hw2 := hB.size
  refine' region_ty 4 mixed (by kernel_rfl) hF ?_ ?_
  rotate_left
  · simp only [List.take_succ_cons, List.take_zero]
    repeat (first | exact Line.nil | ((refine' Line.cons rfl (.run rfl rfl ?_) ?_); (any_goals (first | exact cMove rfl rfl | exact cMakeCells (n := N) rfl rfl rfl Tryd.underlying36 infoC34 (by omega) | exact cBuildTabO (L := tzero N) rfl rfl rfl (fun s hs w => buildT46 _ hs w))); rotate_left))
  intro a w3 hF hb hN
  have hBs := hB.size
  replace hB := hB.trans (hb.mono hB.size)
  simp only [List.take_succ_cons, List.take_zero, List.drop_succ_cons, List.drop_zero] at hF hN ⊢
  dsimp only [ext, Option.getD] at hF
  replace hbx := hbx.below hb
  have hgx2 := hbx.lt
  obtain ⟨z, ⟨s, rfl, S, hs, hS⟩, hF⟩ := hF.open (s := 13) rfl
  refine tlStoreV (Δ := [(4, Ty.ex (.pointer (some ⟨gx, 0, none⟩)))]) hF rfl rfl rfl rfl (hF.getEx (s := 13) rfl) hbx rfl sizeT46 (sl_one hs.sl _) (hF.keep [4]) rfl ?_
  intro w4 hF hbx' hkx
  replace hB := below_own hB hkx (by intro y hy; simp only [List.mem_singleton] at hy; omega)
  replace hs := hs.keeps hkx (seg_far hs hbx (by decide))
  refine' tlOp hF rfl rfl rfl ?_ ?_
  rotate_left
  · exact cAssign rfl rfl
  intro a w5 hF hb
  have hBs := hB.size
  replace hB := hB.trans (hb.mono hB.size)
  try (refine wpList_nil ?_)
  repeat with_reducible first | refine nThen ?_ | refine wp_ret ?_
  refine retCell2 hF rfl rfl rfl (hbx'.below hb) Tryd.underlying38 rfl sizeT46 ?_
  exact ⟨_, rfl, ⟨_, rfl, s, rfl, S, hs.below hb, fun y hy => Nat.le_trans hw2 (hS y hy)⟩, hB⟩
end Go.Proofs.YtgmeagkolahkoaaDoor

/- Layer 15 by types: Minus. -/
namespace Go.Proofs.YtgmeagkolahkoaaDoor
open Go.RowKit

/-- May one be taken from the other? -/
def minOk (sa sb : Nat) (A B : List Cl) : Bool := goodN (A.length : Int) && (decide (A.length = B.length) && decide (sa = sb))
def minL (sa sb : Nat) (A B : List Cl) : List Cl := if minOk sa sb A B then tminus A B else []
def minS (sa sb : Nat) (A B : List Cl) : Nat := if minOk sa sb A B then sa else 0
def minE (sa sb : Nat) (A B : List Cl) : Value := .int .i64 (if minOk sa sb A B then 0 else 1)
/-- A less B in the first i cells. -/
def mixM (A B : List Cl) (i : Nat) : List Cl := (tminus A B).take i ++ A.drop i
theorem mixM_len {A B : List Cl} (h : A.length = B.length) (i : Nat) : (mixM A B i).length = A.length := by
  unfold mixM
  rw [List.length_append, List.length_take, List.length_drop, tminus_len h]
  omega
theorem mixM_get {A B : List Cl} (h : A.length = B.length) {i : Nat} (hi : i < A.length) : (mixM A B i).getD i default = A.getD i default := by
  unfold mixM
  have hl : ((tminus A B).take i).length = i := by rw [List.length_take, tminus_len h]; omega
  simp only [List.getD]
  rw [List.getElem?_append_right (by omega), hl, Nat.sub_self, List.getElem?_drop]
  rfl
theorem mixM_set {A B : List Cl} (h : A.length = B.length) {i : Nat} (hi : i < A.length) : (mixM A B i).set i ((A.getD i default).minus (B.getD i default)) = mixM A B (i + 1) := by
  apply list_extD
  · rw [List.length_set, mixM_len h, mixM_len h]
  · intro j hj
    rw [List.length_set, mixM_len h] at hj
    have hm : ∀ k, j < k → k ≤ A.length → (mixM A B k).getD j default = (tminus A B).getD j default := fun k hk hkl => by
      unfold mixM
      simp only [List.getD]
      rw [List.getElem?_append_left (by rw [List.length_take, tminus_len h]; omega), List.getElem?_take, if_pos hk]
    have ha : ∀ k, k ≤ j → (mixM A B k).getD j default = A.getD j default := fun k hk => by
      unfold mixM
      have hl : ((tminus A B).take k).length = k := by rw [List.length_take, tminus_len h]; omega
      simp only [List.getD]
      rw [List.getElem?_append_right (by omega), hl, List.getElem?_drop]
      congr 2
      omega
    rw [getD_set_eq _ _ (by rw [mixM_len h]; exact hj)]
    by_cases hij : i = j
    · subst hij
      rw [if_pos rfl, hm (i + 1) (by omega) (by omega), tminus_get h hj]
    · rw [if_neg hij]
      by_cases hji : j < i
      · rw [hm i hji (by omega), hm (i + 1) (by omega) (by omega)]
      · rw [ha i (by omega), ha (i + 1) (by omega)]
theorem mixM_zero (A B : List Cl) : mixM A B 0 = A := by simp [mixM]
theorem mixM_all {A B : List Cl} (h : A.length = B.length) : mixM A B A.length = tminus A B := by
  unfold mixM
  rw [List.take_of_length_le (by rw [tminus_len h]; exact Nat.le_refl _), List.drop_of_length_le (Nat.le_refl _), List.append_nil]
set_option maxRecDepth 100000 in
set_option maxHeartbeats 2000000 in
theorem tminus_ty (sa sb : Nat) (A B : List Cl) : FnR2 Tryd.prog 25 (Ty.tab 27 sa A) (Ty.tab 27 sb B) (fun w => Ty.tabE w 27 (minS sa sb A B) (minL sa sb A B) (minE sa sb A B)) := by
  refine ⟨fun args w => by kernel_rfl, fun w v u ⟨s, hv, hs⟩ ⟨s2, hu, hs2⟩ => ?_⟩
  subst hv hu
  have hG := tgood_ty sa A
  refine enter_ty 56 [Ty.ex (.agg #[.int .u64 (sa : Int), s]), Ty.ex (.agg #[.int .u64 (sb : Int), s2])] Tryd.func25 rfl (by kernel_rfl) ⟨rfl, rfl, trivial⟩ fun a hF => ?_
  have hB := Below.refl w.heap.size w
  let TA := Ty.cls 27 A
  let TB := Ty.cls 27 B
  repeat with_reducible refine wp_seq ?_
  refine' reg_all hF ?_ mixed (by kernel_rfl) ?_
  rotate_left
  · repeat (first
        | exact Line.nil
        | (refine' Line.cons rfl (.new rfl rfl (run_alloc_i infoT46) rfl) ?_; rotate_left)
        | ((refine' Line.cons rfl (.run rfl rfl ?_) ?_)
           any_goals (first | exact cAssign rfl rfl | exact cBoxTab rfl rfl)
           rotate_left))
  intro a w1 hF hb hN
  have hBs := hB.size
  replace hB := hB.trans (hb.mono hB.size)
  dsimp only [ext, Option.getD] at hF
  repeat with_reducible first | refine wp_seq ?_ | refine nThen ?_
  obtain ⟨z, ⟨g4, rfl, hg4, hb4⟩, hF⟩ := hF.open (s := 4) rfl
  have hs1 := TA.below hs hB
  have hs21 := TB.below hs2 hB
  have ht1 : (Ty.tab 27 sa A).p w1 (.agg #[.int .u64 (sa : Int), s]) := ⟨s, rfl, hs1⟩
  refine wp_mono (Q := fun e a w' => e = .normal ∧ Fr 56 [(2, Ty.at_ 38 [.int .u64 (sa : Int), s]), (3, Ty.at_ 38 [.int .u64 (sb : Int), s2]), (4, Ty.ex (.pointer (some ⟨g4, 0, none⟩))), (27, Ty.ex (.bool (!minOk sa sb A B)))] a w' ∧ Below w.heap.size w w' ∧ Blk w' g4 38 zeroT) ?_ ?_
  · unfold minOk
    by_cases h1 : goodN (A.length : Int) = true
    · rw [h1] at hG
      by_cases h2 : A.length = B.length
      · have e2 : (!decide ((A.length : Int) = (B.length : Int))) = false := by rw [decide_eq_true (by omega)]; rfl
        have e3 : (!decide ((sa : Int) = (sb : Int))) = !(goodN (A.length : Int) && (decide (A.length = B.length) && decide (sa = sb))) := by
          rw [h1, decide_eq_true h2, Bool.true_and, Bool.true_and, show decide ((sa : Int) = (sb : Int)) = decide (sa = sb) from decide_eq_decide.2 (by omega)]
        refine' reg_all hF ?_ mixed (by kernel_rfl) ?_
        rotate_left
        · repeat (first | exact Line.nil | ((first | refine' Line.cons rfl (.run rfl rfl ?_) ?_ | refine' Line.cons rfl (.yes rfl rfl rfl rfl ?_) ?_); (any_goals (first | exact cMove rfl rfl | exact cNot rfl rfl | exact cLoadT46 rfl (.t rfl) | exact cCallH1 rfl (.l rfl ht1) hG | exact cFldL46 rfl (.t rfl) | exact cRowOf46 rfl (.t rfl) | exact cLenH rfl (.l rfl hs1) (Ty.sl_isSl _ _ _) Tryd.underlying36 | exact cLenH rfl (.l rfl hs21) (Ty.sl_isSl _ _ _) Tryd.underlying36 | exact cFldS46 rfl (.t rfl) | exact cLoadU64 rfl (.t rfl) | exact OpOk.b (cNeq rfl rfl rfl) e2 | exact OpOk.b (cNeq rfl rfl rfl) e3 | exact cPickF rfl rfl rfl)); rotate_left))
        intro a w2 hF hb hN
        have hBs := hB.size
        replace hB := hB.trans (hb.mono hB.size)
        dsimp only [ext, Option.getD] at hF
        exact ⟨rfl, hF.keep [2, 3, 4, 27], hB, hb4.below hb⟩
      · have e2 : (!decide ((A.length : Int) = (B.length : Int))) = true := by rw [decide_eq_false (by omega)]; rfl
        have e3 : (!(goodN (A.length : Int) && (decide (A.length = B.length) && decide (sa = sb)))) = true := by rw [decide_eq_false h2, Bool.false_and, Bool.and_false]; rfl
        rw [e3]
        refine' reg_all hF ?_ mixed (by kernel_rfl) ?_
        rotate_left
        · repeat (first | exact Line.nil | (refine' Line.cons rfl (.no rfl rfl rfl rfl rfl rfl) ?_; rotate_left) | ((first | refine' Line.cons rfl (.run rfl rfl ?_) ?_ | refine' Line.cons rfl (.yes rfl rfl rfl rfl ?_) ?_); (any_goals (first | exact cMove rfl rfl | exact cNot rfl rfl | exact cLoadT46 rfl (.t rfl) | exact cCallH1 rfl (.l rfl ht1) hG | exact cFldL46 rfl (.t rfl) | exact cRowOf46 rfl (.t rfl) | exact cLenH rfl (.l rfl hs1) (Ty.sl_isSl _ _ _) Tryd.underlying36 | exact cLenH rfl (.l rfl hs21) (Ty.sl_isSl _ _ _) Tryd.underlying36 | exact OpOk.b (cNeq rfl rfl rfl) e2 | exact cPickT rfl rfl rfl | exact cPickF rfl rfl rfl)); rotate_left))
        intro a w2 hF hb hN
        have hBs := hB.size
        replace hB := hB.trans (hb.mono hB.size)
        dsimp only [ext, Option.getD] at hF
        exact ⟨rfl, hF.keep [2, 3, 4, 27], hB, hb4.below hb⟩
    · have h1 : goodN (A.length : Int) = false := by simpa using h1
      rw [h1] at hG ⊢
      refine' reg_all hF ?_ mixed (by kernel_rfl) ?_
      rotate_left
      · repeat (first | exact Line.nil | (refine' Line.cons rfl (.no rfl rfl rfl rfl rfl rfl) ?_; rotate_left) | ((refine' Line.cons rfl (.run rfl rfl ?_) ?_); (any_goals (first | exact cMove rfl rfl | exact cNot rfl rfl | exact cLoadT46 rfl (.t rfl) | exact cCallH1 rfl (.l rfl ht1) hG | exact cPickT rfl rfl rfl)); rotate_left))
      intro a w2 hF hb hN
      have hBs := hB.size
      replace hB := hB.trans (hb.mono hB.size)
      dsimp only [ext, Option.getD] at hF
      exact ⟨rfl, hF.keep [2, 3, 4, 27], hB, hb4.below hb⟩
  clear hF hB hb4 hs1 hs21 ht1
  rintro e a w2 ⟨rfl, hF, hB, hb4⟩
  repeat with_reducible refine nThen ?_
  by_cases hok : minOk sa sb A B = true
  rotate_left
  · have hok : minOk sa sb A B = false := by simpa using hok
    have e1 : minS sa sb A B = 0 := by unfold minS; rw [hok]; rfl
    have e2 : minL sa sb A B = [] := by unfold minL; rw [hok]; rfl
    have e3 : minE sa sb A B = .int .i64 1 := by unfold minE; rw [hok]; rfl
    rw [hok] at hF
    rw [e1, e2, e3]
    refine cond_t hF rfl ?_
    repeat with_reducible refine wp_seq ?_
    refine' region_ty 1 mixed (by kernel_rfl) hF ?_ ?_
    rotate_left
    · simp only [List.take_succ_cons, List.take_zero]
      repeat (first | exact Line.nil | ((refine' Line.cons rfl (.run rfl rfl ?_) ?_); (any_goals exact cBuildE rfl (fun w => buildT046 w)); rotate_left))
    intro a w3 hF hb hN
    have hBs := hB.size
    replace hB := hB.trans (hb.mono hB.size)
    simp only [List.take_succ_cons, List.take_zero, List.drop_succ_cons, List.drop_zero] at hF hN ⊢
    dsimp only [ext, Option.getD] at hF
    replace hb4 := hb4.below hb
    refine tlStoreV (Δ := [(4, Ty.ex (.pointer (some ⟨g4, 0, none⟩)))]) hF rfl rfl rfl rfl (hF.getEx (s := 28) rfl) hb4 rfl sizeT46 (tabCells 0 _ _ _) (hF.keep [4]) rfl ?_
    intro w4 hF hb4 hkx
    replace hB := below_own hB hkx (by intro y hy; simp only [List.mem_singleton] at hy; omega)
    refine' tlOp hF rfl rfl rfl ?_ ?_
    rotate_left
    · exact cAssign rfl rfl
    intro a w5 hF hb
    have hBs := hB.size
    replace hB := hB.trans (hb.mono hB.size)
    try (refine wpList_nil ?_)
    repeat with_reducible first | refine nThen ?_ | refine wp_ret ?_ | refine rThen ?_
    replace hb4 := hb4.below hb
    refine retCell2 hF rfl rfl rfl hb4 Tryd.underlying38 rfl sizeT46 ?_
    exact ⟨_, rfl, ⟨_, rfl, _, rfl, [], Seg.nil _ _ _, by simp⟩, hB⟩
  have e1 : minS sa sb A B = sa := by unfold minS; rw [hok]; rfl
  have e2 : minL sa sb A B = tminus A B := by unfold minL; rw [hok]; rfl
  have e3 : minE sa sb A B = .int .i64 0 := by unfold minE; rw [hok]; rfl
  rw [hok] at hF
  rw [e1, e2, e3]
  clear e1 e2 e3
  unfold minOk at hok
  simp only [Bool.and_eq_true, decide_eq_true_eq] at hok
  obtain ⟨hgd, hlen, hse⟩ := hok
  subst hse
  obtain ⟨N, hN, hN1, hN2⟩ := goodN_rng hgd
  have hN : A.length = N := by omega
  refine cond_f hF rfl ?_
  repeat with_reducible first | refine wp_seq ?_ | refine nThen ?_ | refine wp_skip ?_
  obtain ⟨p2, hp2, hF⟩ := hF.open (s := 2) rfl
  obtain ⟨p3, hp3, hF⟩ := hF.open (s := 3) rfl
  have hsa := TA.below hs hB
  have hsb := TB.below hs2 hB
  have hw2 := hB.size
  have hlt4 := hb4.lt
  have hB0 := hB
  replace hB := Below.refl w2.heap.size w2
  clear hs hs2 hG
  refine' region_ty 7 mixed (by kernel_rfl) hF ?_ ?_
  rotate_left
  · simp only [List.take_succ_cons, List.take_zero]
    repeat (first
        | exact Line.nil
        | (refine' Line.cons rfl (.new rfl rfl (run_alloc_i infoT46) rfl) ?_; rotate_left)
        | ((refine' Line.cons rfl (.run rfl rfl ?_) ?_)
           any_goals (first | exact cFldS46 rfl (.l rfl hp2) | exact cLoadU64 rfl (.t rfl) | exact cFldL46 rfl (.l rfl hp2) | exact cRowOf46 rfl (.t rfl) | exact cCallS1 rfl (.l rfl hsa) (cloneC_ty A (by omega)) | exact cBuildTabO (L := A) rfl rfl rfl (fun s hs w => buildT46 _ hs w))
           rotate_left))
  intro a w3 hF hb hN
  have hBs := hB.size
  replace hB := hB.trans (hb.mono hB.size)
  simp only [List.take_succ_cons, List.take_zero, List.drop_succ_cons, List.drop_zero] at hF hN ⊢
  dsimp only [ext, Option.getD] at hF
  obtain ⟨z, ⟨s6, rfl, S, hsg, hS⟩, hF⟩ := hF.open (s := 34) rfl
  obtain ⟨g, off, cap, rfl, rfl, hsl⟩ : ∃ g off cap, s6 = .slice (some ⟨g, off, none⟩) A.length cap ∧ S = [g] ∧ SegL w3 27 65 g off A.length cap (flatC A) := by
    rcases hsg.cases with ⟨_, h0, _⟩ | h
    · omega
    · exact h
  have hg : w2.heap.size ≤ g := hS g (by simp)
  obtain ⟨z, ⟨g6, rfl, hg6, hb6⟩, hF⟩ := hF.open (s := 6) rfl
  have hg6 : w2.heap.size ≤ g6 := hg6
  refine tlStoreV (Δ := [(2, Ty.ex p2), (3, Ty.ex p3), (4, Ty.ex (.pointer (some ⟨g4, 0, none⟩))), (6, Ty.ex (.pointer (some ⟨g6, 0, none⟩)))]) hF rfl rfl rfl rfl (hF.getEx (s := 34) rfl) hb6 rfl sizeT46 (sl_one hsg.sl _) (hF.keep [2, 3, 4, 6]) rfl ?_
  intro w4 hF hb6' hkx
  refine wpList_nil ?_
  replace hB := below_own hB hkx (by intro y hy; simp only [List.mem_singleton] at hy; omega)
  have hne : g ≠ g6 := fun h => by
    subst h
    obtain ⟨cs, fr, h1⟩ := hsl.block
    unfold Blk at hb6
    rw [hb6] at h1
    simp only [Option.some.injEq, Obj.cells.injEq] at h1
    exact absurd h1.2.1 (by decide)
  replace hsl := hsl.keeps hkx (by simpa using hne)
  replace hb6 : Blk w4 g6 38 #[.int .u64 (sa : Int), .slice (some ⟨g, off, none⟩) A.length cap] := hb6'
  clear hb6'
  clear hS hsg hkx
  have hpb := (Ty.at_ 38 [.int .u64 (sa : Int), s2]).below hp3 hB
  have hsb4 := TB.below hsb hB
  repeat with_reducible first | refine wp_seq ?_ | refine nThen ?_
  refine' reg_all hF ?_ mixed (by kernel_rfl) ?_
  rotate_left
  · repeat (first | exact Line.nil | ((refine' Line.cons rfl (.run rfl rfl ?_) ?_); (any_goals (first | exact cMove rfl rfl | exact cFldL46 rfl (.l rfl hpb) | exact cRowOf46 rfl (.t rfl) | exact cLenH rfl (.l rfl hsb4) (Ty.sl_isSl _ _ _) Tryd.underlying36)); rotate_left))
  intro a w5 hF hb hN
  have hBs := hB.size
  replace hB := hB.trans (hb.mono hB.size)
  dsimp only [ext, Option.getD] at hF
  repeat with_reducible first | refine nThen ?_ | refine wp_block ?_
  replace hsl := hsl.below hb
  replace hb6 := hb6.below hb
  refine loop_ty (fun m a wr => ∃ i : Nat, i + m = B.length ∧ Fr 56 [(4, Ty.ex (.pointer (some ⟨g4, 0, none⟩))), (6, Ty.ex (.pointer (some ⟨g6, 0, none⟩))), (36, Ty.ex s2), (37, Ty.ex (.int .i64 (B.length : Int))), (38, Ty.ex (.int .i64 (i : Int)))] a wr ∧ Below w2.heap.size w2 wr ∧ Blk wr g6 38 #[.int .u64 (sa : Int), .slice (some ⟨g, off, none⟩) A.length cap] ∧ SegL wr 27 65 g off A.length cap (flatC (mixM A B i))) B.length ?_ ?_
  · exact ⟨0, by omega, hF.keep [4, 6, 36, 37, 38], hB, hb6, by rw [mixM_zero]; exact hsl⟩
  clear hF hB hsl hb6
  rintro m a wr ⟨i, hi, hF, hB, hb6, hsl⟩
  repeat with_reducible refine wp_seq ?_
  refine' reg_all hF ?_ mixed (by kernel_rfl) ?_
  rotate_left
  · repeat (first | exact Line.nil | ((refine' Line.cons rfl (.run rfl rfl ?_) ?_); (any_goals exact cLss rfl rfl rfl); rotate_left))
  intro a w6 hF hb hN
  have hBs := hB.size
  replace hB := hB.trans (hb.mono hB.size)
  dsimp only [ext, Option.getD] at hF
  repeat with_reducible first | refine wp_seq ?_ | refine nThen ?_
  replace hsl := hsl.below hb
  replace hb6 := hb6.below hb
  refine cond_ty hF rfl (fun hlt => ?_) (fun hge => ?_)
  · have hlt : i < B.length := by have := of_decide_eq_true hlt; omega
    have hsb6 := TB.below hsb hB
    have hw6 := hB.size
    have hsl0 := hsl
    repeat with_reducible first | refine wp_seq ?_ | refine nThen ?_ | refine wp_skip ?_ | refine wp_block ?_
    refine' region_ty 5 mixed (by kernel_rfl) hF ?_ ?_
    rotate_left
    · simp only [List.take_succ_cons, List.take_zero]
      repeat (first
          | exact Line.nil
          | (refine' Line.cons rfl (.new rfl rfl (run_alloc_i infoC34) rfl) ?_; rotate_left)
          | ((refine' Line.cons rfl (.run rfl rfl ?_) ?_)
             any_goals (first | exact cMove rfl rfl | exact cAssign rfl rfl | exact cIndexCl (k := i) rfl (.l rfl hsb6) rfl Tryd.underlying36 info34 hlt | exact cLoadCl34 rfl (.t rfl))
             rotate_left))
    intro a w7 hF hb hN
    have hBs := hB.size
    replace hB := hB.trans (hb.mono hB.size)
    simp only [List.take_succ_cons, List.take_zero, List.drop_succ_cons, List.drop_zero] at hF hN ⊢
    dsimp only [ext, Option.getD] at hF
    replace hsl := hsl.below hb
    replace hb6 := hb6.below hb
    have hlg := hsl.lt
    obtain ⟨z, ⟨g8, rfl, hg8, hb8⟩, hF⟩ := hF.open (s := 8) rfl
    have hg8 : w6.heap.size ≤ g8 := hg8
    have hlt6 := hb6.lt
    have hg86 : g8 ≠ g6 := fun h => by subst h; exact absurd (hb8.ne hb6 (by decide)) (by simp)
    have hg8g : g ≠ g8 := by have := hsl0.lt; omega
    refine tlStoreV (Δ := [(4, Ty.ex (.pointer (some ⟨g4, 0, none⟩))), (6, Ty.ex (.pointer (some ⟨g6, 0, none⟩))), (7, Ty.ex (.int .i64 (i : Int))), (8, Ty.ex (.pointer (some ⟨g8, 0, none⟩))), (36, Ty.ex s2), (37, Ty.ex (.int .i64 (B.length : Int))), (38, Ty.ex (.int .i64 (i : Int)))]) hF rfl rfl rfl rfl (hF.getEx (s := 42) rfl) hb8 (clSz _ _) (by show _ = some (Cl.a _).size; rw [Cl.size]; exact info34) (Cl.one _) (hF.keep [4, 6, 7, 8, 36, 37, 38]) rfl ?_
    intro w8 hF hb8 hkx
    refine wpList_nil ?_
    replace hB := below_own hB hkx (by intro y hy; simp only [List.mem_singleton] at hy; omega)
    replace hsl := hsl.keeps hkx (by simpa using hg8g)
    replace hb6 := hb6.keeps hkx (by simpa using Ne.symm hg86)
    have h8 : (Ty.at_ 27 (B.getD i default).enc).p w8 (.pointer (some ⟨g8, 0, none⟩)) := blk_at hb8
    have h6 : (Ty.at_ 38 [.int .u64 (sa : Int), .slice (some ⟨g, off, none⟩) A.length cap]).p w8 (.pointer (some ⟨g6, 0, none⟩)) := blk_at hb6
    have hcell : (Ty.at_ 27 (A.getD i default).enc).p w8 (.pointer (some ⟨g, off + i * 65, none⟩)) := by
      obtain ⟨g', off', he, h⟩ := SlP.elem (k := i * 65) hsl.sl (by rw [flatC_len, mixM_len hlen]; omega)
      simp only [Option.some.injEq, Addr.mk.injEq] at he
      obtain ⟨rfl, rfl, _⟩ := he
      have h := h (i * 65)
      rw [flatC_at _ (by rw [mixM_len hlen]; omega), mixM_get hlen (by omega)] at h
      exact at_pre _ _ h
    clear hb8 hkx
    repeat with_reducible refine nThen ?_
    refine' region_ty 11 mixed (by kernel_rfl) hF ?_ ?_
    rotate_left
    · simp only [List.take_succ_cons, List.take_zero]
      repeat (first | exact Line.nil | ((refine' Line.cons rfl (.run rfl rfl ?_) ?_); (any_goals (first | exact cMove rfl rfl | exact cFldL46 rfl (.l rfl h6) | exact cRowOf46 rfl (.t rfl) | exact cIndexEx (k := i) (sz := 65) rfl rfl rfl Tryd.underlying36 info34 (by omega) | exact cLoadCl34 rfl (.l rfl hcell) | exact cLoadCl34 rfl (.l rfl h8) | exact cCall2 rfl rfl rfl (cminus_ty _ _))); rotate_left))
    intro a w9 hF hb hN
    have hBs := hB.size
    replace hB := hB.trans (hb.mono hB.size)
    simp only [List.take_succ_cons, List.take_zero, List.drop_succ_cons, List.drop_zero] at hF hN ⊢
    dsimp only [ext, Option.getD] at hF
    replace hsl := hsl.below hb
    replace hb6 := hb6.below hb
    refine tlStoreAt (Δ := [(4, Ty.ex (.pointer (some ⟨g4, 0, none⟩))), (6, Ty.ex (.pointer (some ⟨g6, 0, none⟩))), (36, Ty.ex s2), (37, Ty.ex (.int .i64 (B.length : Int))), (38, Ty.ex (.int .i64 (i : Int)))]) (k := i * 65) hF rfl rfl rfl rfl rfl hsl (by rw [Cl.size]; omega) (by rw [Cl.size]; exact info34) (Cl.one _) (hF.keep [4, 6, 36, 37, 38]) rfl ?_
    intro w10 hF hsl hk10
    refine wpList_nil ?_
    replace hB := below_own hB hk10 (by intro y hy; simp only [List.mem_singleton] at hy; omega)
    replace hb6 := hb6.keeps hk10 (by simpa using Ne.symm hne)
    rw [show (((A.getD i default).minus (B.getD i default)).a).toList = ((A.getD i default).minus (B.getD i default)).enc from rfl, over_flatC _ _ (by rw [mixM_len hlen]; omega), mixM_set hlen (by omega)] at hsl
    repeat with_reducible first | refine nThen ?_ | refine nBlk ?_
    refine' reg_all hF ?_ mixed (by kernel_rfl) ?_
    rotate_left
    · repeat (first | exact Line.nil | ((refine' Line.cons rfl (.run rfl rfl ?_) ?_); (any_goals (first | exact cMove rfl rfl | exact cAdd (r := ((i + 1 : Nat) : Int)) rfl rfl rfl (by omega))); rotate_left))
    intro a w11 hF hb hN
    have hBs := hB.size
    replace hB := hB.trans (hb.mono hB.size)
    dsimp only [ext, Option.getD] at hF
    repeat with_reducible refine nThen ?_
    exact ⟨m - 1, by omega, i + 1, by omega, hF.keep [4, 6, 36, 37, 38], hB, hb6.below hb, hsl.below hb⟩
  have hge : ¬ i < B.length := by have := of_decide_eq_false hge; omega
  obtain rfl : i = A.length := by omega
  rw [mixM_all hlen] at hsl
  have h6 : (Ty.at_ 38 [.int .u64 (sa : Int), .slice (some ⟨g, off, none⟩) A.length cap]).p w6 (.pointer (some ⟨g6, 0, none⟩)) := blk_at hb6
  replace hb4 : Blk w6 g4 38 zeroT := hb4.below hB
  replace hB := hB0.trans (hB.mono hw2)
  have hg4 : w.heap.size ≤ g4 := hg4
  have hg46 : g4 ≠ g := by omega
  clear hb6
  repeat with_reducible first | refine wp_seq ?_ | refine nThen ?_ | refine wp_exit ?_ | refine xThen ?_ | refine xHere ?_
  refine wp_region_lit ?_
  refine' tlOp hF rfl rfl rfl ?_ ?_
  rotate_left
  · exact cLoadT46 rfl (.l rfl h6)
  intro a w7 hF hb
  have hBs := hB.size
  replace hB := hB.trans (hb.mono hB.size)
  try (refine wpList_nil ?_)
  replace hb4 := hb4.below hb
  replace hsl := hsl.below hb
  refine tlStoreV (Δ := [(4, Ty.ex (.pointer (some ⟨g4, 0, none⟩)))]) hF rfl rfl rfl rfl (hF.getEx (s := 55) rfl) hb4 rfl sizeT46 (tabCells sa _ _ _) (hF.keep [4]) rfl ?_
  intro w8 hF hb4 hkx
  replace hB := below_own hB hkx (by intro y hy; simp only [List.mem_singleton] at hy; omega)
  replace hsl := hsl.keeps hkx (by simpa using Ne.symm hg46)
  refine' tlOp hF rfl rfl rfl ?_ ?_
  rotate_left
  · exact cAssign rfl rfl
  intro a w9 hF hb
  have hBs := hB.size
  replace hB := hB.trans (hb.mono hB.size)
  try (refine wpList_nil ?_)
  repeat with_reducible first | refine nThen ?_ | refine wp_ret ?_
  refine retCell2 hF rfl rfl rfl (hb4.below hb) Tryd.underlying38 rfl sizeT46 ?_
  refine ⟨_, rfl, ⟨_, rfl, _, rfl, [g], ?_, fun y hy => ?_⟩, hB⟩
  · rw [tminus_len hlen]
    exact (hsl.below hb).seg
  · simp only [List.mem_singleton] at hy
    omega
end Go.Proofs.YtgmeagkolahkoaaDoor

/- Layer 15 by types: Zero, the program's and the document's. -/
namespace Go.Proofs.YtgmeagkolahkoaaDoor
open Go.RowKit

/-- All cells are nought. -/
def allZ (L : List Cl) : Bool := L.all fun c => decide (c = Cl.zero)
theorem allZ_bad {L : List Cl} {k : Nat} (hk : k < L.length) (h : ¬ L.getD k default = Cl.zero) : allZ L = false := by
  unfold allZ
  rw [List.all_eq_false]
  exact ⟨L[k], List.getElem_mem hk, by simpa [List.getD, List.getElem?_eq_getElem hk] using h⟩
theorem allZ_all {L : List Cl} (h : ∀ k, k < L.length → L.getD k default = Cl.zero) : allZ L = true := by
  unfold allZ
  rw [List.all_eq_true]
  intro c hc
  obtain ⟨k, hk, rfl⟩ := List.getElem_of_mem hc
  simpa [List.getD, List.getElem?_eq_getElem hk] using h k hk
theorem allZ_iff {L : List Cl} : allZ L = true ↔ ∀ k, k < L.length → L.getD k default = Cl.zero := by
  refine ⟨fun h k hk => ?_, allZ_all⟩
  exact Classical.byContradiction fun hb => by rw [allZ_bad hk hb] at h; cases h
set_option maxRecDepth 100000 in
theorem zero1_ty (c : Cl) : Fn1 Tryd.prog 79 (Ty.ex (.agg c.a)) (Ty.ex (.bool (!decide (c = Cl.zero)))) := by
  refine ⟨fun args w => by kernel_rfl, fun w v hv => ?_⟩
  have hC := czero_ty c
  refine enter_ty 6 [Ty.ex (.agg c.a)] Tryd.func79 rfl (by kernel_rfl) ⟨hv, trivial⟩ fun a hF => ?_
  have hB := Below.refl w.heap.size w
  repeat with_reducible refine wp_seq ?_
  refine' reg_all hF ?_ mixed (by kernel_rfl) ?_
  rotate_left
  · repeat (first | exact Line.nil | ((refine' Line.cons rfl (.run rfl rfl ?_) ?_); (any_goals (first | exact cAssign rfl rfl | exact cBoxCl rfl rfl)); rotate_left))
  intro a w1 hF hb hN
  have hBs := hB.size
  replace hB := hB.trans (hb.mono hB.size)
  dsimp only [ext, Option.getD] at hF
  repeat with_reducible first | refine wp_seq ?_ | refine nThen ?_
  refine' reg_all hF ?_ mixed (by kernel_rfl) ?_
  rotate_left
  · repeat (first | exact Line.nil | ((refine' Line.cons rfl (.run rfl rfl ?_) ?_); (any_goals (first | exact cAssign rfl rfl | exact cNot rfl rfl | exact cLoadCl34 rfl (.t rfl) | exact cCall1 rfl rfl hC)); rotate_left))
  intro a w2 hF hb hN
  have hBs := hB.size
  replace hB := hB.trans (hb.mono hB.size)
  dsimp only [ext, Option.getD] at hF
  repeat with_reducible first | refine nThen ?_ | refine wp_ret ?_
  refine ret1 hF rfl rfl fun z hz => ?_
  exact ⟨z, rfl, hz, hB⟩
abbrev zeroFn : Value := .func (.func 79) #[] #[]
set_option maxRecDepth 100000 in
/-- The first that is not nought; -1. -/
theorem idxCl_ty (L : List Cl) (hL : L.length ≤ 1000000) : ∃ r : Int, (decide (0 ≤ r) = !allZ L) ∧ Fn2 Tryd.prog 99 (Ty.cls 27 L) (Ty.ex zeroFn) (Ty.ex (.int .i64 r)) := by
  by_cases hz : allZ L = true
  · refine ⟨-1, by rw [hz]; rfl, fun args w => by kernel_rfl, fun w v u hv hu => ?_⟩
    have hall := allZ_iff.1 hz
    let TL := Ty.cls 27 L
    refine enter_ty 19 [Ty.ex v, Ty.ex zeroFn] Tryd.func99 rfl (by kernel_rfl) ⟨rfl, hu, trivial⟩ fun a hF => ?_
    have hB := Below.refl w.heap.size w
    repeat with_reducible refine wp_seq ?_
    refine' reg_all hF ?_ mixed (by kernel_rfl) ?_
    rotate_left
    · repeat (first | exact Line.nil | ((refine' Line.cons rfl (.run rfl rfl ?_) ?_); (any_goals exact cAssign rfl rfl); rotate_left))
    intro a w1 hF hb hN
    have hBs := hB.size
    replace hB := hB.trans (hb.mono hB.size)
    dsimp only [ext, Option.getD] at hF
    repeat with_reducible first | refine wp_seq ?_ | refine nThen ?_
    have hv1 := TL.below hv hB
    refine' reg_all hF ?_ mixed (by kernel_rfl) ?_
    rotate_left
    · repeat (first | exact Line.nil | ((refine' Line.cons rfl (.run rfl rfl ?_) ?_); (any_goals (first | exact cMove rfl rfl | exact cLenH rfl (.l rfl hv1) (Ty.sl_isSl _ _ _) Tryd.underlying36)); rotate_left))
    intro a w2 hF hb hN
    have hBs := hB.size
    replace hB := hB.trans (hb.mono hB.size)
    dsimp only [ext, Option.getD] at hF
    repeat with_reducible first | refine nThen ?_ | refine wp_block ?_
    refine loop_ty (fun m a wr => ∃ k : Nat, k + m = L.length ∧ Fr 19 [(0, Ty.ex v), (1, Ty.ex zeroFn), (7, Ty.ex (.int .i64 (L.length : Int))), (8, Ty.ex (.int .i64 (k : Int)))] a wr ∧ Below w.heap.size w wr) L.length ?_ ?_
    · exact ⟨0, by omega, hF.keep [0, 1, 7, 8], hB⟩
    clear hF hB hv1
    rintro m a wr ⟨k, hk, hF, hB⟩
    repeat with_reducible refine wp_seq ?_
    refine' reg_all hF ?_ mixed (by kernel_rfl) ?_
    rotate_left
    · repeat (first | exact Line.nil | ((refine' Line.cons rfl (.run rfl rfl ?_) ?_); (any_goals exact cLss rfl rfl rfl); rotate_left))
    intro a w3 hF hb hN
    have hBs := hB.size
    replace hB := hB.trans (hb.mono hB.size)
    dsimp only [ext, Option.getD] at hF
    repeat with_reducible first | refine wp_seq ?_ | refine nThen ?_
    refine cond_ty hF rfl (fun hlt => ?_) (fun hge => ?_)
    · have hlt : k < L.length := by have := of_decide_eq_true hlt; omega
      have hC := zero1_ty (L.getD k default)
      rw [hall k hlt] at hC
      repeat with_reducible first | refine wp_seq ?_ | refine nThen ?_ | refine wp_skip ?_ | refine wp_block ?_
      refine' reg_all hF ?_ mixed (by kernel_rfl) ?_
      rotate_left
      · repeat (first | exact Line.nil | ((refine' Line.cons rfl (.run rfl rfl ?_) ?_); (any_goals (first | exact cMove rfl rfl | exact cAssign rfl rfl)); rotate_left))
      intro a w4 hF hb hN
      have hBs := hB.size
      replace hB := hB.trans (hb.mono hB.size)
      dsimp only [ext, Option.getD] at hF
      repeat with_reducible first | refine wp_seq ?_ | refine nThen ?_
      have hv4 := TL.below hv hB
      have hix : ∀ {Γ : Ctx} {o : Oper} {x ix : Operand} {kd : IntKind} (ho : o.op = .indexAddr 36 x ix) (hx : Has w4 Γ x (Ty.cls 27 L)) (hi : OpT Γ ix (Ty.ex (.int kd (k : Int)))), OpOk Tryd.prog w4 Γ o (Ty.at_ 27 Cl.zero.enc) := fun ho hx hi => by
        have h := cIndexCl (P := Tryd.prog) (k := k) ho hx hi Tryd.underlying36 info34 hlt
        rwa [hall k hlt] at h
      refine' reg_all hF ?_ mixed (by kernel_rfl) ?_
      rotate_left
      · repeat (first | exact Line.nil | ((refine' Line.cons rfl (.run rfl rfl ?_) ?_); (any_goals (first | exact cMove rfl rfl | exact hix rfl (.l rfl hv4) rfl | exact cLoadCl34 rfl (.t rfl) | exact OpOk.b (c := false) (cCallV1 rfl rfl (.t rfl) hC) (by decide))); rotate_left))
      intro a w5 hF hb hN
      have hBs := hB.size
      replace hB := hB.trans (hb.mono hB.size)
      dsimp only [ext, Option.getD] at hF
      repeat with_reducible refine nThen ?_
      refine cond_f hF rfl ?_
      repeat with_reducible first | refine nThen ?_ | refine nBlk ?_ | refine wp_skip ?_
      refine' reg_all hF ?_ mixed (by kernel_rfl) ?_
      rotate_left
      · repeat (first | exact Line.nil | ((refine' Line.cons rfl (.run rfl rfl ?_) ?_); (any_goals (first | exact cMove rfl rfl | exact cAdd (r := ((k + 1 : Nat) : Int)) rfl rfl rfl (by omega))); rotate_left))
      intro a w6 hF hb hN
      have hBs := hB.size
      replace hB := hB.trans (hb.mono hB.size)
      dsimp only [ext, Option.getD] at hF
      repeat with_reducible refine nThen ?_
      exact ⟨m - 1, by omega, k + 1, by omega, hF.keep [0, 1, 7, 8], hB⟩
    · have hge : ¬ k < L.length := by have := of_decide_eq_false hge; omega
      repeat with_reducible first | refine wp_seq ?_ | refine nThen ?_ | refine wp_exit ?_ | refine xThen ?_ | refine xHere ?_
      refine' reg_all hF ?_ mixed (by kernel_rfl) ?_
      rotate_left
      · repeat (first | exact Line.nil | ((refine' Line.cons rfl (.run rfl rfl ?_) ?_); (any_goals exact cAssign rfl rfl); rotate_left))
      intro a w4 hF hb hN
      have hBs := hB.size
      replace hB := hB.trans (hb.mono hB.size)
      dsimp only [ext, Option.getD] at hF
      repeat with_reducible first | refine nThen ?_ | refine wp_ret ?_
      refine ret1 hF rfl rfl fun z hz => ?_
      exact ⟨z, rfl, hz, hB⟩
  · have hz : allZ L = false := by simpa using hz
    obtain ⟨k0, hk0, hne0, hlo⟩ : ∃ k, k < L.length ∧ ¬ L.getD k default = Cl.zero ∧ ∀ j, j < k → L.getD j default = Cl.zero := by
      have hex : ∃ k, k < L.length ∧ ¬ L.getD k default = Cl.zero := Classical.byContradiction fun h => by
        have : allZ L = true := allZ_all fun k hk => Classical.byContradiction fun hb => h ⟨k, hk, hb⟩
        rw [this] at hz; cases hz
      have key : ∀ n, (∃ k, k < n ∧ k < L.length ∧ ¬ L.getD k default = Cl.zero) → ∃ k, k < L.length ∧ ¬ L.getD k default = Cl.zero ∧ ∀ j, j < k → L.getD j default = Cl.zero := by
        intro n
        induction n with
        | zero => rintro ⟨k, h, _⟩; omega
        | succ n ih =>
          rintro ⟨k, h1, h2, h3⟩
          by_cases hn : ∃ k, k < n ∧ k < L.length ∧ ¬ L.getD k default = Cl.zero
          · exact ih hn
          · refine ⟨k, h2, h3, fun j hj => Classical.byContradiction fun hb => hn ⟨j, by omega, by omega, hb⟩⟩
      obtain ⟨k, h1, h2⟩ := hex
      exact key (k + 1) ⟨k, by omega, h1, h2⟩
    refine ⟨(k0 : Int), by rw [hz]; exact decide_eq_true (by omega), fun args w => by kernel_rfl, fun w v u hv hu => ?_⟩
    let TL := Ty.cls 27 L
    refine enter_ty 19 [Ty.ex v, Ty.ex zeroFn] Tryd.func99 rfl (by kernel_rfl) ⟨rfl, hu, trivial⟩ fun a hF => ?_
    have hB := Below.refl w.heap.size w
    repeat with_reducible refine wp_seq ?_
    refine' reg_all hF ?_ mixed (by kernel_rfl) ?_
    rotate_left
    · repeat (first | exact Line.nil | ((refine' Line.cons rfl (.run rfl rfl ?_) ?_); (any_goals exact cAssign rfl rfl); rotate_left))
    intro a w1 hF hb hN
    have hBs := hB.size
    replace hB := hB.trans (hb.mono hB.size)
    dsimp only [ext, Option.getD] at hF
    repeat with_reducible first | refine wp_seq ?_ | refine nThen ?_
    have hv1 := TL.below hv hB
    refine' reg_all hF ?_ mixed (by kernel_rfl) ?_
    rotate_left
    · repeat (first | exact Line.nil | ((refine' Line.cons rfl (.run rfl rfl ?_) ?_); (any_goals (first | exact cMove rfl rfl | exact cLenH rfl (.l rfl hv1) (Ty.sl_isSl _ _ _) Tryd.underlying36)); rotate_left))
    intro a w2 hF hb hN
    have hBs := hB.size
    replace hB := hB.trans (hb.mono hB.size)
    dsimp only [ext, Option.getD] at hF
    repeat with_reducible first | refine nThen ?_ | refine wp_block ?_
    refine loop_ty (fun m a wr => ∃ k : Nat, k + m = L.length ∧ k ≤ k0 ∧ Fr 19 [(0, Ty.ex v), (1, Ty.ex zeroFn), (7, Ty.ex (.int .i64 (L.length : Int))), (8, Ty.ex (.int .i64 (k : Int)))] a wr ∧ Below w.heap.size w wr) L.length ?_ ?_
    · exact ⟨0, by omega, by omega, hF.keep [0, 1, 7, 8], hB⟩
    clear hF hB hv1
    rintro m a wr ⟨k, hk, hk2, hF, hB⟩
    repeat with_reducible refine wp_seq ?_
    refine' reg_all hF ?_ mixed (by kernel_rfl) ?_
    rotate_left
    · repeat (first | exact Line.nil | ((refine' Line.cons rfl (.run rfl rfl ?_) ?_); (any_goals exact OpOk.b (c := true) (cLss rfl rfl rfl) (decide_eq_true (by omega))); rotate_left))
    intro a w3 hF hb hN
    have hBs := hB.size
    replace hB := hB.trans (hb.mono hB.size)
    dsimp only [ext, Option.getD] at hF
    repeat with_reducible first | refine wp_seq ?_ | refine nThen ?_
    refine cond_t hF rfl ?_
    have hC := zero1_ty (L.getD k default)
    repeat with_reducible first | refine wp_seq ?_ | refine nThen ?_ | refine wp_skip ?_ | refine wp_block ?_
    refine' reg_all hF ?_ mixed (by kernel_rfl) ?_
    rotate_left
    · repeat (first | exact Line.nil | ((refine' Line.cons rfl (.run rfl rfl ?_) ?_); (any_goals (first | exact cMove rfl rfl | exact cAssign rfl rfl)); rotate_left))
    intro a w4 hF hb hN
    have hBs := hB.size
    replace hB := hB.trans (hb.mono hB.size)
    dsimp only [ext, Option.getD] at hF
    repeat with_reducible first | refine wp_seq ?_ | refine nThen ?_
    have hv4 := TL.below hv hB
    refine' reg_all hF ?_ mixed (by kernel_rfl) ?_
    rotate_left
    · repeat (first | exact Line.nil | ((refine' Line.cons rfl (.run rfl rfl ?_) ?_); (any_goals (first | exact cMove rfl rfl | exact cIndexCl (k := k) rfl (.l rfl hv4) rfl Tryd.underlying36 info34 (by omega) | exact cLoadCl34 rfl (.t rfl) | exact cCallV1 rfl rfl (.t rfl) hC)); rotate_left))
    intro a w5 hF hb hN
    have hBs := hB.size
    replace hB := hB.trans (hb.mono hB.size)
    dsimp only [ext, Option.getD] at hF
    repeat with_reducible refine nThen ?_
    refine cond_ty hF rfl (fun hin => ?_) (fun hout => ?_)
    · have hkk : k = k0 := Classical.byContradiction fun h => by
        rw [hlo k (by omega)] at hin
        simp at hin
      subst hkk
      repeat with_reducible refine wp_seq ?_
      refine' reg_all hF ?_ mixed (by kernel_rfl) ?_
      rotate_left
      · repeat (first | exact Line.nil | ((refine' Line.cons rfl (.run rfl rfl ?_) ?_); (any_goals (first | exact cMove rfl rfl | exact cAssign rfl rfl)); rotate_left))
      intro a w6 hF hb hN
      have hBs := hB.size
      replace hB := hB.trans (hb.mono hB.size)
      dsimp only [ext, Option.getD] at hF
      repeat with_reducible first | refine nThen ?_ | refine wp_ret ?_ | refine rThen ?_ | refine rBlk ?_
      refine ret1 hF rfl rfl fun z hz => ?_
      exact ⟨z, rfl, hz, hB⟩
    · have hkk : k < k0 := Classical.byContradiction fun h => by
        obtain rfl : k = k0 := by omega
        simp at hout
        exact hne0 (by simpa [List.getD] using hout)
      repeat with_reducible first | refine nThen ?_ | refine nBlk ?_ | refine wp_skip ?_
      refine' reg_all hF ?_ mixed (by kernel_rfl) ?_
      rotate_left
      · repeat (first | exact Line.nil | ((refine' Line.cons rfl (.run rfl rfl ?_) ?_); (any_goals (first | exact cMove rfl rfl | exact cAdd (r := ((k + 1 : Nat) : Int)) rfl rfl rfl (by omega))); rotate_left))
      intro a w6 hF hb hN
      have hBs := hB.size
      replace hB := hB.trans (hb.mono hB.size)
      dsimp only [ext, Option.getD] at hF
      repeat with_reducible refine nThen ?_
      exact ⟨m - 1, by omega, k + 1, by omega, by omega, hF.keep [0, 1, 7, 8], hB⟩
set_option maxRecDepth 100000 in
theorem contCl_ty (L : List Cl) (hL : L.length ≤ 1000000) : Fn2 Tryd.prog 78 (Ty.cls 27 L) (Ty.ex zeroFn) (Ty.ex (.bool (!allZ L))) := by
  obtain ⟨r, hr, hI⟩ := idxCl_ty L hL
  refine ⟨fun args w => by kernel_rfl, fun w v u hv hu => ?_⟩
  refine enter_ty 9 [Ty.ex v, Ty.ex zeroFn] Tryd.func78 rfl (by kernel_rfl) ⟨rfl, hu, trivial⟩ fun a hF => ?_
  have hB := Below.refl w.heap.size w
  repeat with_reducible refine wp_seq ?_
  refine' reg_all hF ?_ mixed (by kernel_rfl) ?_
  rotate_left
  · repeat (first | exact Line.nil | ((refine' Line.cons rfl (.run rfl rfl ?_) ?_); (any_goals exact cAssign rfl rfl); rotate_left))
  intro a w1 hF hb hN
  have hBs := hB.size
  replace hB := hB.trans (hb.mono hB.size)
  dsimp only [ext, Option.getD] at hF
  repeat with_reducible first | refine wp_seq ?_ | refine nThen ?_
  have hv1 := (Ty.cls 27 L).below hv hB
  refine' reg_all hF ?_ mixed (by kernel_rfl) ?_
  rotate_left
  · repeat (first | exact Line.nil | ((refine' Line.cons rfl (.run rfl rfl ?_) ?_); (any_goals (first | exact cMove rfl rfl | exact cAssign rfl rfl | exact cCallH2 rfl (.l rfl hv1) (.t rfl) hI | exact OpOk.b (cGeq rfl rfl rfl) hr)); rotate_left))
  intro a w2 hF hb hN
  have hBs := hB.size
  replace hB := hB.trans (hb.mono hB.size)
  dsimp only [ext, Option.getD] at hF
  repeat with_reducible first | refine nThen ?_ | refine wp_ret ?_
  refine ret1 hF rfl rfl fun z hz => ?_
  exact ⟨z, rfl, hz, hB⟩
set_option maxRecDepth 100000 in
theorem tzero_ty (seed : Nat) (L : List Cl) : Fn1 Tryd.prog 53 (Ty.tab 27 seed L) (Ty.ex (.bool (goodN (L.length : Int) && allZ L))) := by
  refine ⟨fun args w => by kernel_rfl, fun w v ⟨s, hv, hs⟩ => ?_⟩
  subst hv
  have hG := tgood_ty seed L
  by_cases hg : goodN (L.length : Int) = true
  · obtain ⟨N, hN, _, hN2⟩ := goodN_rng hg
    have hC := contCl_ty L (by omega)
    rw [hg] at hG ⊢
    refine enter_ty 11 [Ty.ex (.agg #[.int .u64 (seed : Int), s])] Tryd.func53 rfl (by kernel_rfl) ⟨rfl, trivial⟩ fun a hF => ?_
    have hB := Below.refl w.heap.size w
    repeat with_reducible refine wp_seq ?_
    refine' reg_all hF ?_ mixed (by kernel_rfl) ?_
    rotate_left
    · repeat (first | exact Line.nil | ((refine' Line.cons rfl (.run rfl rfl ?_) ?_); (any_goals (first | exact cAssign rfl rfl | exact cBoxTab rfl rfl)); rotate_left))
    intro a w1 hF hb hN
    have hBs := hB.size
    replace hB := hB.trans (hb.mono hB.size)
    dsimp only [ext, Option.getD] at hF
    repeat with_reducible first | refine wp_seq ?_ | refine nThen ?_
    have hs1 := (Ty.cls 27 L).below hs hB
    have ht1 : (Ty.tab 27 seed L).p w1 (.agg #[.int .u64 (seed : Int), s]) := ⟨s, rfl, hs1⟩
    refine' reg_all hF ?_ mixed (by kernel_rfl) ?_
    rotate_left
    · repeat (first | exact Line.nil | ((first | refine' Line.cons rfl (.run rfl rfl ?_) ?_ | refine' Line.cons rfl (.yes rfl rfl rfl rfl ?_) ?_); (any_goals (first | exact cMove rfl rfl | exact cAssign rfl rfl | exact cNot rfl rfl | exact cLoadT46 rfl (.t rfl) | exact cCallH1 rfl (.l rfl ht1) hG | exact cFldL46 rfl (.t rfl) | exact cRowOf46 rfl (.t rfl) | exact cCallH2 rfl (.l rfl hs1) (.t rfl) hC | exact cPickT rfl rfl rfl)); rotate_left))
    intro a w2 hF hb hN
    have hBs := hB.size
    replace hB := hB.trans (hb.mono hB.size)
    dsimp only [ext, Option.getD] at hF
    repeat with_reducible first | refine nThen ?_ | refine wp_ret ?_
    refine ret1 hF rfl rfl fun z hz => ?_
    refine ⟨z, rfl, ?_, hB⟩
    rw [Bool.true_and, show allZ L = !!allZ L by simp]
    exact hz
  · have hg : goodN (L.length : Int) = false := by simpa using hg
    rw [hg] at hG ⊢
    refine enter_ty 11 [Ty.ex (.agg #[.int .u64 (seed : Int), s])] Tryd.func53 rfl (by kernel_rfl) ⟨rfl, trivial⟩ fun a hF => ?_
    have hB := Below.refl w.heap.size w
    repeat with_reducible refine wp_seq ?_
    refine' reg_all hF ?_ mixed (by kernel_rfl) ?_
    rotate_left
    · repeat (first | exact Line.nil | ((refine' Line.cons rfl (.run rfl rfl ?_) ?_); (any_goals (first | exact cAssign rfl rfl | exact cBoxTab rfl rfl)); rotate_left))
    intro a w1 hF hb hN
    have hBs := hB.size
    replace hB := hB.trans (hb.mono hB.size)
    dsimp only [ext, Option.getD] at hF
    repeat with_reducible first | refine wp_seq ?_ | refine nThen ?_
    have hs1 := (Ty.cls 27 L).below hs hB
    have ht1 : (Ty.tab 27 seed L).p w1 (.agg #[.int .u64 (seed : Int), s]) := ⟨s, rfl, hs1⟩
    refine' reg_all hF ?_ mixed (by kernel_rfl) ?_
    rotate_left
    · repeat (first | exact Line.nil | (refine' Line.cons rfl (.no rfl rfl rfl rfl rfl rfl) ?_; rotate_left) | ((refine' Line.cons rfl (.run rfl rfl ?_) ?_); (any_goals (first | exact cMove rfl rfl | exact cAssign rfl rfl | exact cLoadT46 rfl (.t rfl) | exact cCallH1 rfl (.l rfl ht1) hG | exact cPickF rfl rfl rfl)); rotate_left))
    intro a w2 hF hb hN
    have hBs := hB.size
    replace hB := hB.trans (hb.mono hB.size)
    dsimp only [ext, Option.getD] at hF
    repeat with_reducible first | refine nThen ?_ | refine wp_ret ?_
    refine ret1 hF rfl rfl fun z hz => ?_
    exact ⟨z, rfl, hz, hB⟩
set_option maxRecDepth 100000 in
theorem rzero_ty (seed : Nat) (L : List Cl) (hL : L.length ≤ 1000000) : Fn1 Tryd.prog 59 (Ty.tab 114 seed L) (Ty.ex (.bool (goodN (L.length : Int) && allZ L))) := by
  refine ⟨fun args w => by kernel_rfl, fun w v ⟨s, hv, hs⟩ => ?_⟩
  subst hv
  have hG := goodCells_ty (L.length : Int)
  let TL := Ty.cls 114 L
  refine enter_ty 22 [Ty.ex (.agg #[.int .u64 (seed : Int), s])] Tryd.func59 rfl (by kernel_rfl) ⟨rfl, trivial⟩ fun a hF => ?_
  have hB := Below.refl w.heap.size w
  repeat with_reducible refine wp_seq ?_
  refine' reg_all hF ?_ mixed (by kernel_rfl) ?_
  rotate_left
  · repeat (first | exact Line.nil | ((refine' Line.cons rfl (.run rfl rfl ?_) ?_); (any_goals (first | exact cAssign rfl rfl | exact cBoxTab rfl rfl)); rotate_left))
  intro a w1 hF hb hN
  have hBs := hB.size
  replace hB := hB.trans (hb.mono hB.size)
  dsimp only [ext, Option.getD] at hF
  repeat with_reducible first | refine wp_seq ?_ | refine nThen ?_
  refine' reg_all hF ?_ mixed (by kernel_rfl) ?_
  rotate_left
  · repeat (first | exact Line.nil | ((refine' Line.cons rfl (.run rfl rfl ?_) ?_); (any_goals exact cAssign rfl rfl); rotate_left))
  intro a w2 hF hb hN
  have hBs := hB.size
  replace hB := hB.trans (hb.mono hB.size)
  dsimp only [ext, Option.getD] at hF
  repeat with_reducible first | refine nThen ?_ | refine wp_block ?_
  refine loop_ty (fun m a wr => ∃ k : Nat, k + m = L.length ∧ Fr 22 [(1, Ty.at_ 72 [.int .u64 (seed : Int), s]), (3, Ty.ex (.int .i64 (k : Int)))] a wr ∧ Below w.heap.size w wr ∧ ∀ j, j < k → L.getD j default = Cl.zero) L.length ?_ ?_
  · exact ⟨0, by omega, hF.keep [1, 3], hB, fun j hj => by omega⟩
  clear hF hB
  rintro m a wr ⟨k, hk, hF, hB, hlo⟩
  have hsr := TL.below hs hB
  repeat with_reducible refine wp_seq ?_
  refine' reg_all hF ?_ mixed (by kernel_rfl) ?_
  rotate_left
  · repeat (first | exact Line.nil | ((refine' Line.cons rfl (.run rfl rfl ?_) ?_); (any_goals (first | exact cMove rfl rfl | exact cFldL83 rfl (.t rfl) | exact cRowOf83 rfl (.t rfl) | exact cLenH rfl (.l rfl hsr) (Ty.sl_isSl _ _ _) Tryd.underlying70 | exact cLss rfl rfl rfl)); rotate_left))
  intro a w3 hF hb hN
  have hBs := hB.size
  replace hB := hB.trans (hb.mono hB.size)
  dsimp only [ext, Option.getD] at hF
  repeat with_reducible refine nThen ?_
  replace hsr := TL.below hs hB
  refine cond_ty hF rfl (fun hlt => ?_) (fun hge => ?_)
  · have hlt : k < L.length := by have := of_decide_eq_true hlt; omega
    repeat with_reducible first | refine wp_seq ?_ | refine nThen ?_ | refine wp_skip ?_ | refine wp_block ?_
    refine' reg_all hF ?_ mixed (by kernel_rfl) ?_
    rotate_left
    · repeat (first | exact Line.nil | ((refine' Line.cons rfl (.run rfl rfl ?_) ?_); (any_goals (first | exact cMove rfl rfl | exact cFldL83 rfl (.t rfl) | exact cRowOf83 rfl (.t rfl) | exact cIndexCl (k := k) rfl (.l rfl hsr) rfl Tryd.underlying70 info49 hlt | exact cLoadCl49 rfl (.t rfl) | exact cBuildE rfl (fun w => buildZ49 w) | exact cNeqAgg rfl rfl rfl guard49 (fun w => neq_cl49 _ _ w))); rotate_left))
    intro a w4 hF hb hN
    have hBs := hB.size
    replace hB := hB.trans (hb.mono hB.size)
    dsimp only [ext, Option.getD] at hF
    repeat with_reducible refine nThen ?_
    refine cond_ty hF rfl (fun hbad => ?_) (fun hok => ?_)
    · have hbad : ¬ L.getD k default = Cl.zero := by simpa using hbad
      repeat with_reducible refine wp_seq ?_
      refine' reg_all hF ?_ mixed (by kernel_rfl) ?_
      rotate_left
      · repeat (first | exact Line.nil | ((refine' Line.cons rfl (.run rfl rfl ?_) ?_); (any_goals exact cAssign rfl rfl); rotate_left))
      intro a w5 hF hb hN
      have hBs := hB.size
      replace hB := hB.trans (hb.mono hB.size)
      dsimp only [ext, Option.getD] at hF
      repeat with_reducible first | refine nThen ?_ | refine wp_ret ?_ | refine rThen ?_ | refine rBlk ?_
      refine ret1 hF rfl rfl fun z hz => ?_
      exact ⟨z, rfl, by rw [allZ_bad hlt hbad, Bool.and_false]; exact hz, hB⟩
    · have hok : L.getD k default = Cl.zero := by simpa using hok
      repeat with_reducible first | refine nThen ?_ | refine nBlk ?_ | refine wp_skip ?_
      refine' reg_all hF ?_ mixed (by kernel_rfl) ?_
      rotate_left
      · repeat (first | exact Line.nil | ((refine' Line.cons rfl (.run rfl rfl ?_) ?_); (any_goals (first | exact cMove rfl rfl | exact cAssign rfl rfl | exact cAdd (r := ((k + 1 : Nat) : Int)) rfl rfl rfl (by omega))); rotate_left))
      intro a w5 hF hb hN
      have hBs := hB.size
      replace hB := hB.trans (hb.mono hB.size)
      dsimp only [ext, Option.getD] at hF
      repeat with_reducible refine nThen ?_
      refine ⟨m - 1, by omega, k + 1, by omega, hF.keep [1, 3], hB, fun j hj => ?_⟩
      by_cases hjk : j < k
      · exact hlo j hjk
      · obtain rfl : j = k := by omega
        exact hok
  · have hge : ¬ k < L.length := by have := of_decide_eq_false hge; omega
    repeat with_reducible first | refine wp_seq ?_ | refine nThen ?_ | refine wp_exit ?_ | refine xThen ?_ | refine xHere ?_
    refine' reg_all hF ?_ mixed (by kernel_rfl) ?_
    rotate_left
    · repeat (first | exact Line.nil | ((refine' Line.cons rfl (.run rfl rfl ?_) ?_); (any_goals (first | exact cAssign rfl rfl | exact cFldL83 rfl (.t rfl) | exact cRowOf83 rfl (.t rfl) | exact cLenH rfl (.l rfl hsr) (Ty.sl_isSl _ _ _) Tryd.underlying70 | exact cCall1 rfl rfl hG)); rotate_left))
    intro a w4 hF hb hN
    have hBs := hB.size
    replace hB := hB.trans (hb.mono hB.size)
    dsimp only [ext, Option.getD] at hF
    repeat with_reducible first | refine nThen ?_ | refine wp_ret ?_
    refine ret1 hF rfl rfl fun z hz => ?_
    refine ⟨z, rfl, ?_, hB⟩
    rw [allZ_all fun j hj => hlo j (by omega), Bool.and_true]
    exact hz
end Go.Proofs.YtgmeagkolahkoaaDoor

/- The library's contracts, laid at this translation. -/
namespace Go.Proofs.YtgmeagkolahkoaaDoor
open Go.RowKit Go.Shelf

def laysSortS_ren : Go.Shelf.Ren := ⟨fun | 6 => 37 | 15 => 67 | 14 => 66 | 28 => 94 | 29 => 95 | 20 => 86 | 21 => 87 | 22 => 88 | 23 => 89 | 24 => 90 | 25 => 91 | 26 => 92 | 27 => 93 | 46 => 104 | 47 => 105 | 48 => 106 | 49 => 107 | 50 => 108 | 57 => 110 | n => n, fun | 22 => 33 | 24 => 25 | 25 => 90 | 3 => 3 | 39 => 63 | 0 => 0 | 53 => 97 | 55 => 22 | 4 => 4 | 46 => 151 | 45 => 150 | 50 => 124 | 5 => 5 | 9 => 9 | 66 => 163 | 70 => 167 | 76 => 170 | 77 => 171 | n => n, fun | n => n⟩
theorem laysSortS : Go.Proofs.SlLaysF0.n6 Tryd.prog laysSortS_ren := {
  mixed := by kernel_rfl
  f6 := ⟨Tryd.f37.name, by decide, Tryd.func37.trans (congrArg some (by kernel_rfl))⟩
  f14 := ⟨Tryd.f66.name, by decide, Tryd.func66.trans (congrArg some (by kernel_rfl))⟩
  f15 := Tryd.func67.trans (congrArg some (by kernel_rfl))
  f20 := ⟨Tryd.f86.name, by decide, Tryd.func86.trans (congrArg some (by kernel_rfl))⟩
  f21 := ⟨Tryd.f87.name, by decide, Tryd.func87.trans (congrArg some (by kernel_rfl))⟩
  f22 := ⟨Tryd.f88.name, by decide, Tryd.func88.trans (congrArg some (by kernel_rfl))⟩
  f23 := ⟨Tryd.f89.name, by decide, Tryd.func89.trans (congrArg some (by kernel_rfl))⟩
  f24 := ⟨Tryd.f90.name, by decide, Tryd.func90.trans (congrArg some (by kernel_rfl))⟩
  f25 := ⟨Tryd.f91.name, by decide, Tryd.func91.trans (congrArg some (by kernel_rfl))⟩
  f26 := ⟨Tryd.f92.name, by decide, Tryd.func92.trans (congrArg some (by kernel_rfl))⟩
  f27 := ⟨Tryd.f93.name, by decide, Tryd.func93.trans (congrArg some (by kernel_rfl))⟩
  f28 := Tryd.func94.trans (congrArg some (by kernel_rfl))
  f29 := Tryd.func95.trans (congrArg some (by kernel_rfl))
  f46 := ⟨Tryd.f104.name, by decide, Tryd.func104.trans (congrArg some (by kernel_rfl))⟩
  f47 := Tryd.func105.trans (congrArg some (by kernel_rfl))
  f48 := Tryd.func106.trans (congrArg some (by kernel_rfl))
  f49 := ⟨Tryd.f107.name, by decide, Tryd.func107.trans (congrArg some (by kernel_rfl))⟩
  f50 := ⟨Tryd.f108.name, by decide, Tryd.func108.trans (congrArg some (by kernel_rfl))⟩
  f57 := ⟨Tryd.f110.name, by decide, Tryd.func110.trans (congrArg some (by kernel_rfl))⟩
  t0 := Tryd.underlying0
  a0 := Tryd.isAgg0
  z0 := Tryd.sizeOf0
  v0 := Tryd.zeroValue0
  t3 := Tryd.underlying3
  a3 := Tryd.isAgg3
  z3 := Tryd.sizeOf3
  v3 := Tryd.zeroValue3
  t4 := Tryd.underlying4
  a4 := Tryd.isAgg4
  z4 := Tryd.sizeOf4
  v4 := Tryd.zeroValue4
  t5 := Tryd.underlying5
  a5 := Tryd.isAgg5
  z5 := Tryd.sizeOf5
  v5 := Tryd.zeroValue5
  t9 := Tryd.underlying9
  a9 := Tryd.isAgg9
  z9 := Tryd.sizeOf9
  v9 := Tryd.zeroValue9
  t22 := Tryd.underlying33
  a22 := Tryd.isAgg33
  z22 := Tryd.sizeOf33
  v22 := Tryd.zeroValue33
  t25 := Tryd.underlying90
  a25 := Tryd.isAgg90
  z25 := Tryd.sizeOf90
  v25 := Tryd.zeroValue90
  t39 := Tryd.underlying63
  a39 := Tryd.isAgg63
  z39 := Tryd.sizeOf63
  v39 := Tryd.zeroValue63
  t45 := Tryd.underlying150
  a45 := Tryd.isAgg150
  z45 := Tryd.sizeOf150
  v45 := Tryd.zeroValue150
  t46 := Tryd.underlying151
  a46 := Tryd.isAgg151
  z46 := Tryd.sizeOf151
  v46 := Tryd.zeroValue151
  t50 := Tryd.underlying124
  a50 := Tryd.isAgg124
  z50 := Tryd.sizeOf124
  v50 := Tryd.zeroValue124
  t53 := Tryd.underlying97
  a53 := Tryd.isAgg97
  z53 := Tryd.sizeOf97
  v53 := Tryd.zeroValue97
  t55 := Tryd.underlying22
  a55 := Tryd.isAgg22
  z55 := Tryd.sizeOf22
  v55 := Tryd.zeroValue22
  t66 := Tryd.underlying163
  a66 := Tryd.isAgg163
  z66 := Tryd.sizeOf163
  v66 := Tryd.zeroValue163
  t70 := Tryd.underlying167
  a70 := Tryd.isAgg167
  z70 := Tryd.sizeOf167
  v70 := Tryd.zeroValue167
  t76 := Tryd.underlying170
  a76 := Tryd.isAgg170
  z76 := Tryd.sizeOf170
  v76 := Tryd.zeroValue170
  t77 := Tryd.underlying171
  a77 := Tryd.isAgg171
  z77 := Tryd.sizeOf171
  v77 := Tryd.zeroValue171 }
end Go.Proofs.YtgmeagkolahkoaaDoor

/- Layer 10: SortFunc by the library's contract; Compact; Of. -/
namespace Go.Proofs.YtgmeagkolahkoaaDoor
open Go.RowKit

theorem rd_box {w : World} {g : Nat} {t : TypeId} {l : List Nat} (h : Blk w g t (u8s l)) : Rd w (some ⟨g, 0, none⟩) (l.map bv) := by
  have := Rd.of_blk0 h
  simpa [u8s] using this
set_option maxRecDepth 100000 in
/-- Sum.Cmp, its world to the letter. -/
theorem cmpW (x y : Sm) (w : World) : Calls Tryd.prog 38 #[.agg (u8s x.l), .agg (u8s y.l)] w fun e w' => e = .returned (.int .i64 (cmpL x.l y.l)) ∧ ∃ q os, w' = Sort.grow (w.drewN q) os := by
  have h0 : Blk ((w.alloc (.cells (u8s x.l) 25)).alloc (.cells (u8s y.l) 25)) w.heap.size 25 (u8s x.l) := (Blk.new w _ _).alloc _
  have h1 : Blk ((w.alloc (.cells (u8s x.l) 25)).alloc (.cells (u8s y.l) 25)) (w.heap.size + 1) 25 (u8s y.l) := Blk.newAt (w.alloc _) _ _ _ (by simp)
  have hc : ∀ n, Calls Tryd.prog 68 #[.slice (some ⟨w.heap.size, 0, none⟩) 32 32, .slice (some ⟨w.heap.size + 1, 0, none⟩) 32 32] (((w.alloc (.cells (u8s x.l) 25)).alloc (.cells (u8s y.l) 25)).drewN n)
      fun e w' => e = .returned (.int .i64 (cmpL x.l y.l)) ∧ w' = (((w.alloc (.cells (u8s x.l) 25)).alloc (.cells (u8s y.l) 25)).drewN n) := fun n =>
    Compare_any _ _ 32 32 32 32 x.l y.l _ x.len y.len (rd_box (h0.drewN n)) (rd_box (h1.drewN n)) (by simp) (by simp) x.lt y.lt
  have HC := Lib.hid hc
  clear hc h0 h1
  generalize cmpL x.l y.l = r at *
  go_enter Tryd.func38, Tryd.ntmps38
  go_wp2_with fail
  go_quiet ((go_at_call 68; exact Calls.quiet_of_same (HC.out _)))
  go_wp2_with fail
  go_ret
  exact ⟨rfl, _, _, by rw [Sort.alloc_eq_grow, Sort.alloc_eq_grow, Sort.grow_grow]; rfl⟩

/-! ### Sorted -/
def ltS (x y : Sm) : Bool := decide (cmpL x.l y.l < 0)
def sortL (D : List Sm) : List Sm := D.mergeSort fun x y => !ltS y x
theorem sortL_len (D : List Sm) : (sortL D).length = D.length := by simp [sortL]
theorem ltS_swo : Sort.SWO (ltOf fun x y : Sm => cmpL x.l y.l) where
  irrefl x := by
    show decide (cmpL x.l x.l < 0) = false
    rw [(cmpL_eq x.l x.l).2 rfl]
    rfl
  trans x y z h1 h2 := by
    unfold ltOf at *
    simp only [decide_eq_true_eq] at *
    exact (cmpL_trans x.l y.l z.l (by omega) (by omega)).2 (.inl h1)
  ntrans x y z h1 h2 := by
    unfold ltOf at *
    simp only [decide_eq_false_iff_not] at *
    have s1 := cmpL_swap x.l y.l
    have s2 := cmpL_swap y.l z.l
    have s3 := cmpL_swap x.l z.l
    have := (cmpL_trans z.l y.l x.l (by omega) (by omega)).1
    omega
theorem flatK_flat (D : List Sm) : Sort.flatK Sm.enc 32 D.toArray = (flat D).toArray := by
  refine Sort.ext_get! (by simp [flat_len]) fun t ht => ?_
  have ht' : t < D.length * 32 := by simpa using ht
  have hq : t / 32 < D.length := by omega
  rw [Sort.get_flatK _ _ _ _ (by simpa using ht')]
  have e1 : D.toArray[t / 32]! = D.getD (t / 32) default := by simp [List.getD, hq]
  have hfl := flat_at D hq
  have hg : (flat D)[t]? = (D.getD (t / 32) default).enc[t % 32]? := by
    have h1 : ((flat D).drop (t / 32 * 32))[t % 32]? = (flat D)[t]? := by rw [List.getElem?_drop]; congr 1; omega
    rw [← h1, hfl, List.getElem?_append_left (by rw [enc_len]; omega)]
  rw [e1]
  have h2 : t % 32 < (D.getD (t / 32) default).enc.length := by rw [enc_len]; omega
  have h3 : t < (flat D).length := by rw [flat_len]; exact ht'
  rw [getElem!_pos (D.getD (t / 32) default).enc (t % 32) h2]
  rw [getElem!_pos (flat D).toArray t (by simpa using h3)]
  rw [List.getElem?_eq_getElem h3, List.getElem?_eq_getElem h2] at hg
  injection hg with hg
  simpa using hg.symm
theorem holds_seg {w : World} {e : TypeId} {g off cap : Nat} {D : List Sm} (h : SegL w e 32 g off D.length cap (flat D)) : Sort.HoldsK Sm.enc 32 w g off D.toArray := by
  obtain ⟨hl, hn, hm, cs, hb, hs, hx⟩ := h
  unfold Sort.HoldsK
  rw [flatK_flat]
  intro j hj
  have hj' : j < (flat D).length := by simpa using hj
  have hj2 : j < D.length * 32 := by rw [← flat_len]; exact hj'
  refine ⟨?_, hb.frozen _⟩
  rw [hb.cell, hx j hj2, List.getElem?_eq_getElem hj', getElem!_pos (flat D).toArray j hj]
  simp
theorem seg_sorted {w : World} {e : TypeId} {g off cap n : Nat} {D : List Sm} (D' : List Sm) (os : Array Obj) (h : SegL w e 32 g off D.length cap (flat D)) (hl' : D'.length = D.length) :
    SegL (sortWorldK Sm.enc 32 w g off n D'.toArray os) e 32 g off D.length cap (flat D') ∧ Keeps [g] w (sortWorldK Sm.enc 32 w g off n D'.toArray os) := by
  obtain ⟨hl, hn, hm, cs, hb, hs, hx⟩ := h
  have hle : D.length * 32 ≤ cap * 32 := Nat.mul_le_mul_right _ hn
  unfold sortWorldK Sort.putRowK
  rw [flatK_flat]
  have hfl : (flat D').length = D.length * 32 := by rw [flat_len, hl']
  have hsz : ∀ W : World, (Sort.putRow id W g off (flat D').toArray).heap.size = W.heap.size := fun W => Sort.size_putRow id W g off _
  have hblk : (Sort.grow (Sort.putRow id (Sort.ahead w n) g off (flat D').toArray) os).heap[g]? = some (.cells (Sort.putCells id off (flat D').toArray cs) e (0, 0)) := by
    have hgl : g < (Sort.putRow id (Sort.ahead w n) g off (flat D').toArray).heap.size := by rw [hsz]; exact hb.lt
    unfold Sort.grow
    simp only []
    rw [Array.getElem?_append_left hgl]
    unfold Sort.putRow Sort.mapBlock
    simp only [Array.getElem?_modify, if_true]
    have : (Sort.ahead w n).heap[g]? = w.heap[g]? := rfl
    rw [this]
    unfold Blk at hb
    rw [hb]
    rfl
  refine ⟨⟨hfl, hn, hm, _, hblk, by simpa [Sort.putCells] using hs, fun j hj => ?_⟩, ⟨rfl, rfl, rfl, ?_, fun k hk hne => ?_⟩⟩
  · unfold Sort.putCells
    have hoj : off + j < cs.size := by omega
    rw [Array.getElem?_mapIdx, Array.getElem?_eq_getElem hoj]
    simp only [Option.map_some]
    have hjf : j < (flat D').length := by omega
    rw [if_pos (by simp; omega), show off + j - off = j by omega, getElem!_pos (flat D').toArray j (by simpa using hjf), List.getElem?_eq_getElem hjf]
    simp
  · show w.heap.size ≤ ((Sort.putRow id (Sort.ahead w n) g off (flat D').toArray).heap ++ os).size
    rw [Array.size_append, hsz]
    exact Nat.le_add_right _ _
  · show ((Sort.putRow id (Sort.ahead w n) g off (flat D').toArray).heap ++ os)[k]? = w.heap[k]?
    rw [Array.getElem?_append_left (by rw [hsz]; exact hk)]
    unfold Sort.putRow Sort.mapBlock
    simp only [Array.getElem?_modify]
    rw [if_neg (fun h => hne (by simp [h]))]
    rfl
theorem sort_any (D : List Sm) (w : World) (g off cap : Nat) (hs : SegL w 25 32 g off D.length cap (flat D)) (hD : D.length ≤ 1000000) :
    Calls Tryd.prog 37 #[.slice (some ⟨g, off, none⟩) D.length cap, .func (.func 38) #[] #[]] w fun e w' => ∃ u, e = .returned u ∧ SegL w' 25 32 g off D.length cap (flat (sortL D)) ∧ Keeps [g] w w' := by
  have h := AnyQ.slices_SortFunc_total laysSortS 32 Tryd.isAgg25 Tryd.sizeOf25 Sm.enc enc_len (fun x v hv => enc_one x v hv) (fun x y : Sm => cmpL x.l y.l) ltS_swo 38 #[] g off cap D.toArray w (fun args w => by kernel_rfl)
    (fun _ _ _ _ x y => cmpW x y _) (holds_seg hs) hs.lt (by simp; omega) (fun x y h1 h2 => by
      unfold ltOf at h1 h2
      simp only [decide_eq_false_iff_not] at h1 h2
      have h3 := cmpL_swap x.l y.l
      exact Sm.ext_l ((cmpL_eq x.l y.l).1 (by omega)))
  refine Calls.mono h fun e w' ⟨he, n, os, hw⟩ => ⟨_, he, ?_⟩
  subst hw
  exact seg_sorted (sortL D) os hs (sortL_len D)
theorem sort_none (w : World) : Calls Tryd.prog 37 #[.slice none 0 0, .func (.func 38) #[] #[]] w fun e w' => ∃ u, e = .returned u ∧ w' = w :=
  Calls.mono (AnyF.slices_SortFunc_none laysSortS none 0 (.func (.func 38) #[] #[]) w) fun _ _ ⟨h1, h2⟩ => ⟨_, h1, h2⟩
end Go.Proofs.YtgmeagkolahkoaaDoor

/- Layer 10: the walks of Compact, Of. -/
namespace Go.Proofs.YtgmeagkolahkoaaDoor
open Go.RowKit

/-- The first m, of alike neighbours only the first. -/
def ddL (D : List Sm) : Nat → List Sm
  | 0 => []
  | m + 1 => if m = 0 ∨ ¬ D.getD m default = D.getD (m - 1) default then ddL D m ++ [D.getD m default] else ddL D m
theorem ddL_le (D : List Sm) : ∀ m, (ddL D m).length ≤ m
  | 0 => Nat.le_refl _
  | m + 1 => by
    have := ddL_le D m
    unfold ddL
    split
    · simp; omega
    · omega
theorem ddL_new {D : List Sm} {m : Nat} (h : m = 0 ∨ ¬ D.getD m default = D.getD (m - 1) default) : ddL D (m + 1) = ddL D m ++ [D.getD m default] := by
  rw [ddL, if_pos h]
theorem ddL_old {D : List Sm} {m : Nat} (h0 : m ≠ 0) (h : D.getD m default = D.getD (m - 1) default) : ddL D (m + 1) = ddL D m := by
  rw [ddL, if_neg (by rintro (h1 | h1); exact h0 h1; exact h1 h)]
theorem take_snoc' (D : List Sm) {m : Nat} (h : m < D.length) : D.take (m + 1) = D.take m ++ [D.getD m default] := by
  rw [List.take_succ_eq_append_getElem h]
  simp [List.getD, List.getElem?_eq_getElem h]
theorem getD_set (D : List Sm) {i j : Nat} (x : Sm) (hi : i < D.length) : (D.set i x).getD j default = if i = j then x else D.getD j default := by
  simp only [List.getD, List.getElem?_set]
  by_cases h : i = j
  · subst h; simp [hi]
  · simp [h]
theorem getD_drop (D : List Sm) (k j : Nat) : (D.drop k).getD j default = D.getD (k + j) default := by
  simp [List.getD, List.getElem?_drop]

set_option maxRecDepth 100000 in
set_option maxHeartbeats 2000000 in
theorem compact_any (D : List Sm) (w : World) (g off cap : Nat) (hs0 : SegL w 25 32 g off D.length cap (flat D)) (hD : D.length ≤ 1000000) :
    Calls Tryd.prog 39 #[.slice (some ⟨g, off, none⟩) D.length cap] w fun e w' => ∃ k, e = .returned (.slice (some ⟨g, off, none⟩) k cap) ∧ k = (ddL D D.length).length ∧ SegL w' 25 32 g off k cap (flat (ddL D D.length)) ∧ Keeps [g] w w' := by
  have hcap : D.length ≤ cap := hs0.2.1
  refine enter_ty 61 [Ty.ex (.slice (some ⟨g, off, none⟩) D.length cap)] Tryd.func39 rfl (by kernel_rfl) ⟨rfl, trivial⟩ fun a hF => ?_
  have hB := Below.refl w.heap.size w
  repeat with_reducible refine wp_seq ?_
  refine' reg_all hF ?_ mixed (by kernel_rfl) ?_
  rotate_left
  · repeat (first | exact Line.nil | ((refine' Line.cons rfl (.run rfl rfl ?_) ?_); (any_goals exact cAssign rfl rfl); rotate_left))
  intro a w1 hF hb hN
  have hBs := hB.size
  replace hB := hB.trans (hb.mono hB.size)
  dsimp only [ext, Option.getD] at hF
  repeat with_reducible first | refine wp_seq ?_ | refine nThen ?_
  refine' reg_all hF ?_ mixed (by kernel_rfl) ?_
  rotate_left
  · repeat (first | exact Line.nil | ((refine' Line.cons rfl (.run rfl rfl ?_) ?_); (any_goals (first | exact cLenEx rfl rfl Tryd.underlying33 | exact cMove rfl rfl | exact cLss rfl rfl rfl)); rotate_left))
  intro a w2 hF hb hN
  have hBs := hB.size
  replace hB := hB.trans (hb.mono hB.size)
  dsimp only [ext, Option.getD] at hF
  repeat with_reducible refine nThen ?_
  refine cond_ty hF rfl (fun h0 => ?_) (fun h1 => ?_)
  · have h0 := of_decide_eq_true h0
    have hdd : ddL D D.length = D := by
      match D, h0 with
      | [], _ => rfl
      | [x], _ => simp [ddL]
      | x :: y :: r, h => simp at h; omega
    repeat with_reducible refine wp_seq ?_
    refine' reg_all hF ?_ mixed (by kernel_rfl) ?_
    rotate_left
    · repeat (first | exact Line.nil | ((refine' Line.cons rfl (.run rfl rfl ?_) ?_); (any_goals (first | exact cMove rfl rfl | exact cAssign rfl rfl)); rotate_left))
    intro a w3 hF hb hN
    have hBs := hB.size
    replace hB := hB.trans (hb.mono hB.size)
    dsimp only [ext, Option.getD] at hF
    repeat with_reducible first | refine nThen ?_ | refine wp_ret ?_ | refine rThen ?_
    refine ret1 hF rfl rfl fun z hz => ?_
    have hz : z = .slice (some ⟨g, off, none⟩) D.length cap := hz
    subst hz
    rw [hdd]
    exact ⟨D.length, rfl, rfl, hs0.below hB, Keeps.of_below hB⟩
  have h1 := of_decide_eq_false h1
  repeat with_reducible first | refine wp_seq ?_ | refine nThen ?_ | refine wp_skip ?_
  refine' reg_all hF ?_ mixed (by kernel_rfl) ?_
  rotate_left
  · repeat (first | exact Line.nil | ((refine' Line.cons rfl (.run rfl rfl ?_) ?_); (any_goals exact cAssign rfl rfl); rotate_left))
  intro a w3 hF hb hN
  have hBs := hB.size
  replace hB := hB.trans (hb.mono hB.size)
  dsimp only [ext, Option.getD] at hF
  repeat with_reducible first | refine nThen ?_ | refine wp_block ?_
  refine loop_ty (fun m a wr => ∃ k : Nat, k + m = D.length ∧ 1 ≤ k ∧ Fr 61 [(0, Ty.ex (.slice (some ⟨g, off, none⟩) D.length cap)), (3, Ty.ex (.int .i64 (k : Int)))] a wr ∧ Below w.heap.size w wr ∧ ddL D k = D.take k) (D.length - 1) ?_ ?_
  · refine ⟨1, by omega, Nat.le_refl _, hF.keep [0, 3], hB, ?_⟩
    rw [ddL_new (.inl rfl), take_snoc' D (by omega)]
    rfl
  clear hF hB
  rintro m a wr ⟨k, hk, hk1, hF, hB, hdd⟩
  repeat with_reducible refine wp_seq ?_
  refine' reg_all hF ?_ mixed (by kernel_rfl) ?_
  rotate_left
  · repeat (first | exact Line.nil | ((refine' Line.cons rfl (.run rfl rfl ?_) ?_); (any_goals (first | exact cLenEx rfl rfl Tryd.underlying33 | exact cMove rfl rfl | exact cLss rfl rfl rfl)); rotate_left))
  intro a w4 hF hb hN
  have hBs := hB.size
  replace hB := hB.trans (hb.mono hB.size)
  dsimp only [ext, Option.getD] at hF
  repeat with_reducible refine nThen ?_
  refine cond_ty hF rfl (fun hlt => ?_) (fun hge => ?_)
  rotate_left
  · have hge : ¬ k < D.length := by simpa using hge
    obtain rfl : k = D.length := by omega
    rw [List.take_length] at hdd
    repeat with_reducible first | refine wp_seq ?_ | refine nThen ?_ | refine wp_exit ?_ | refine xThen ?_ | refine xHere ?_
    refine' reg_all hF ?_ mixed (by kernel_rfl) ?_
    rotate_left
    · repeat (first | exact Line.nil | ((refine' Line.cons rfl (.run rfl rfl ?_) ?_); (any_goals (first | exact cMove rfl rfl | exact cAssign rfl rfl)); rotate_left))
    intro a w5 hF hb hN
    have hBs := hB.size
    replace hB := hB.trans (hb.mono hB.size)
    dsimp only [ext, Option.getD] at hF
    repeat with_reducible first | refine nThen ?_ | refine wp_ret ?_
    refine ret1 hF rfl rfl fun z hz => ?_
    have hz : z = .slice (some ⟨g, off, none⟩) D.length cap := hz
    subst hz
    rw [hdd]
    exact ⟨D.length, rfl, rfl, hs0.below hB, Keeps.of_below hB⟩
  have hlt : k < D.length := by simpa using hlt
  have hsl : (Ty.sums 25 D).p w4 (.slice (some ⟨g, off, none⟩) D.length cap) := (hs0.below hB).sl
  repeat with_reducible first | refine wp_seq ?_ | refine nThen ?_ | refine wp_skip ?_ | refine wp_block ?_
  refine' reg_all hF ?_ mixed (by kernel_rfl) ?_
  rotate_left
  · repeat (first | exact Line.nil | ((refine' Line.cons rfl (.run rfl rfl ?_) ?_); (any_goals (first | exact cSub (r := ((k - 1 : Nat) : Int)) rfl rfl rfl (by omega) | exact cIndexSum (k := k - 1) rfl (.l rfl hsl) rfl Tryd.underlying33 sizeS (by omega) | exact cIndexSum (k := k) rfl (.l rfl hsl) rfl Tryd.underlying33 sizeS hlt | exact cLoadSum rfl (.t rfl) Tryd.underlying25 sizeS | exact cEqlAgg rfl rfl rfl guardS (eqlS _ _) | exact cMove rfl rfl)); rotate_left))
  intro a w5 hF hb hN
  have hBs := hB.size
  replace hB := hB.trans (hb.mono hB.size)
  dsimp only [ext, Option.getD] at hF
  repeat with_reducible refine nThen ?_
  refine cond_ty hF rfl (fun hdup => ?_) (fun hnew => ?_)
  rotate_left
  · have hnew : ¬ D.getD k default = D.getD (k - 1) default := by simpa using hnew
    repeat with_reducible first | refine nThen ?_ | refine nBlk ?_ | refine wp_skip ?_
    refine' reg_all hF ?_ mixed (by kernel_rfl) ?_
    rotate_left
    · repeat (first | exact Line.nil | ((refine' Line.cons rfl (.run rfl rfl ?_) ?_); (any_goals (first | exact cAdd (r := ((k + 1 : Nat) : Int)) rfl rfl rfl (by omega) | exact cMove rfl rfl | exact cAssign rfl rfl)); rotate_left))
    intro a w6 hF hb hN
    have hBs := hB.size
    replace hB := hB.trans (hb.mono hB.size)
    dsimp only [ext, Option.getD] at hF
    repeat with_reducible refine nThen ?_
    refine ⟨m - 1, by omega, k + 1, by omega, by omega, hF.keep [0, 3], hB, ?_⟩
    rw [ddL_new (.inr hnew), hdd, take_snoc' D hlt]
  have hdup : D.getD k default = D.getD (k - 1) default := by simpa using hdup
  repeat with_reducible refine wp_seq ?_
  refine' reg_all hF ?_ mixed (by kernel_rfl) ?_
  rotate_left
  · repeat (first | exact Line.nil | ((refine' Line.cons rfl (.run rfl rfl ?_) ?_); (any_goals (first | exact cSliceLoEx rfl rfl rfl Tryd.underlying33 sizeS hlt hcap | exact cMove rfl rfl | exact cAssign rfl rfl)); rotate_left))
  intro a w6 hF hb hN
  have hBs := hB.size
  replace hB := hB.trans (hb.mono hB.size)
  dsimp only [ext, Option.getD] at hF
  repeat with_reducible first | refine wp_seq ?_ | refine nThen ?_
  refine' reg_all hF ?_ mixed (by kernel_rfl) ?_
  rotate_left
  · repeat (first | exact Line.nil | ((refine' Line.cons rfl (.run rfl rfl ?_) ?_); (any_goals exact cAssign rfl rfl); rotate_left))
  intro a w7 hF hb hN
  have hBs := hB.size
  replace hB := hB.trans (hb.mono hB.size)
  dsimp only [ext, Option.getD] at hF
  repeat with_reducible first | refine nThen ?_ | refine wp_block ?_
  refine loop_ty (fun m a wr => ∃ (q j : Nat) (E : List Sm), k + q + m = D.length ∧ 1 ≤ q ∧ E.length = D.length ∧ j = (ddL D (k + q)).length ∧ j ≤ k + q - 1 ∧ E.take j = ddL D (k + q) ∧ (∀ i, k + q - 1 ≤ i → E.getD i default = D.getD i default) ∧
      Fr 61 [(0, Ty.ex (.slice (some ⟨g, off, none⟩) D.length cap)), (4, Ty.ex (.slice (some ⟨g, off + k * 32, none⟩) (D.length - k) (cap - k))), (3, Ty.ex (.int .i64 (j : Int))), (5, Ty.ex (.int .i64 (q : Int)))] a wr ∧ SegL wr 25 32 g off D.length cap (flat E) ∧ Keeps [g] w wr) (D.length - (k + 1)) ?_ ?_
  · refine ⟨1, k, D, by omega, Nat.le_refl _, rfl, ?_, by omega, ?_, fun i _ => rfl, hF.keep [0, 4, 3, 5], hs0.below hB, Keeps.of_below hB⟩
    · rw [ddL_old (by omega) hdup, hdd]; simp; omega
    · rw [ddL_old (by omega) hdup, hdd]
  clear hF hB hsl hs0
  rintro m a wr ⟨q, j, E, hq, hq1, hE, hj, hjle, hjt, hsame, hF, hseg, hKw⟩
  have hB := Below.refl wr.heap.size wr
  have hs2 : (Ty.sums 25 (E.drop k)).p wr (.slice (some ⟨g, off + k * 32, none⟩) (D.length - k) (cap - k)) := by
    have h := hseg.drop_sl (k := k) (by omega)
    rw [flat_drop] at h
    show SlP _ _ _ (E.drop k).length _
    rw [List.length_drop, hE]
    exact h
  repeat with_reducible refine wp_seq ?_
  refine' reg_all hF ?_ mixed (by kernel_rfl) ?_
  rotate_left
  · repeat (first | exact Line.nil | ((refine' Line.cons rfl (.run rfl rfl ?_) ?_); (any_goals (first | exact cLenEx rfl rfl Tryd.underlying33 | exact cMove rfl rfl | exact cLss rfl rfl rfl)); rotate_left))
  intro a w8 hF hb hN
  have hBs := hB.size
  replace hB := hB.trans (hb.mono hB.size)
  dsimp only [ext, Option.getD] at hF
  repeat with_reducible refine nThen ?_
  refine cond_ty hF rfl (fun hlt2 => ?_) (fun hge2 => ?_)
  rotate_left
  · have hge2 : ¬ q < D.length - k := by simpa using hge2
    have hend : k + q = D.length := by omega
    rw [hend] at hj hjt
    have hjn : j < D.length := by omega
    repeat with_reducible first | refine wp_seq ?_ | refine nThen ?_ | refine wp_exit ?_ | refine xThen ?_ | refine xHere ?_
    refine' region_ty 3 mixed (by kernel_rfl) hF ?_ ?_
    rotate_left
    · simp only [List.take_succ_cons, List.take_zero]
      repeat (first | exact Line.nil | ((refine' Line.cons rfl (.run rfl rfl ?_) ?_); (any_goals (first | exact cSliceLoEx rfl rfl rfl Tryd.underlying33 sizeS hjn hcap | exact cMove rfl rfl)); rotate_left))
    intro a w9 hF hb hN
    have hBs := hB.size
    replace hB := hB.trans (hb.mono hB.size)
    simp only [List.take_succ_cons, List.take_zero, List.drop_succ_cons, List.drop_zero] at hF hN ⊢
    dsimp only [ext, Option.getD] at hF
    refine tlClear (Δ := [(0, Ty.ex (.slice (some ⟨g, off, none⟩) D.length cap)), (3, Ty.ex (.int .i64 (j : Int)))]) (k := j) hF rfl rfl rfl rfl Tryd.underlying33 infoS zero32_size zeroS_one (hseg.below hB) (by omega) (hF.keep [0, 3]) rfl ?_
    intro w10 zs hzl hF hseg2 hk2
    refine wpList_nil ?_
    repeat with_reducible first | refine wp_seq ?_ | refine nThen ?_
    replace hKw : Keeps [g] w w10 := (hKw.trans (Keeps.of_below hB)).trans hk2
    have hB := Below.refl w10.heap.size w10
    refine' reg_all hF ?_ mixed (by kernel_rfl) ?_
    rotate_left
    · repeat (first | exact Line.nil | ((refine' Line.cons rfl (.run rfl rfl ?_) ?_); (any_goals (first | exact cSliceHiEx rfl rfl rfl Tryd.underlying33 sizeS (by omega) | exact cMove rfl rfl | exact cAssign rfl rfl)); rotate_left))
    intro a w11 hF hb hN
    have hBs := hB.size
    replace hB := hB.trans (hb.mono hB.size)
    dsimp only [ext, Option.getD] at hF
    repeat with_reducible first | refine nThen ?_ | refine wp_ret ?_ | refine rThen ?_ | refine rBlk ?_
    refine ret1 hF rfl rfl fun z hz => ?_
    have hz : z = .slice (some ⟨g, off, none⟩) j cap := hz
    subst hz
    refine ⟨j, rfl, hj, ?_, hKw.trans (Keeps.of_below hB)⟩
    have h5 := (hseg2.below hB).take (k := j) (by omega)
    have h6 : (over (flat E) (j * 32) zs).take (j * 32) = flat (ddL D D.length) := by
      unfold over
      rw [List.append_assoc, List.take_append_of_le_length (by rw [List.length_take, flat_len]; omega), List.take_take, Nat.min_self, flat_take, hjt]
    rwa [h6] at h5
  have hlt2 : q < D.length - k := by simpa using hlt2
  have hs2' := (Ty.sums 25 (E.drop k)).below hs2 hB
  have e1 : (E.drop k).getD q default = D.getD (k + q) default := by rw [getD_drop]; exact hsame _ (by omega)
  have e2 : (E.drop k).getD (q - 1) default = D.getD (k + q - 1) default := by rw [getD_drop, show k + (q - 1) = k + q - 1 by omega]; exact hsame _ (by omega)
  repeat with_reducible first | refine wp_seq ?_ | refine nThen ?_ | refine wp_skip ?_ | refine wp_block ?_
  refine' reg_all hF ?_ mixed (by kernel_rfl) ?_
  rotate_left
  · repeat (first | exact Line.nil | ((refine' Line.cons rfl (.run rfl rfl ?_) ?_); (any_goals (first | exact cSub (r := ((q - 1 : Nat) : Int)) rfl rfl rfl (by omega) | exact cIndexSum (k := q - 1) rfl (.l rfl hs2') rfl Tryd.underlying33 sizeS (by simp; omega) | exact cIndexSum (k := q) rfl (.l rfl hs2') rfl Tryd.underlying33 sizeS (by simp; omega) | exact cLoadSum rfl (.t rfl) Tryd.underlying25 sizeS | exact cNeqAgg rfl rfl rfl guardS (neqS _ _) | exact cMove rfl rfl)); rotate_left))
  intro a w9 hF hb hN
  have hBs := hB.size
  replace hB := hB.trans (hb.mono hB.size)
  dsimp only [ext, Option.getD] at hF
  repeat with_reducible refine nThen ?_
  rw [e1, e2] at hF
  refine cond_ty hF rfl (fun hnew => ?_) (fun hold => ?_)
  · have hnew : ¬ D.getD (k + q) default = D.getD (k + q - 1) default := by simpa using hnew
    have hs3 := (Ty.sums 25 (E.drop k)).below hs2 hB
    repeat with_reducible refine wp_seq ?_
    refine' region_ty 7 mixed (by kernel_rfl) hF ?_ ?_
    rotate_left
    · simp only [List.take_succ_cons, List.take_zero]
      repeat (first | exact Line.nil | ((refine' Line.cons rfl (.run rfl rfl ?_) ?_); (any_goals (first | exact cIndexSum (k := q) rfl (.l rfl hs3) rfl Tryd.underlying33 sizeS (by simp; omega) | exact cLoadSum rfl (.t rfl) Tryd.underlying25 sizeS | exact cIndexEx (k := j) rfl rfl rfl Tryd.underlying33 sizeS (by omega) | exact cMove rfl rfl)); rotate_left))
    intro a w10 hF hb hN
    have hBs := hB.size
    replace hB := hB.trans (hb.mono hB.size)
    simp only [List.take_succ_cons, List.take_zero, List.drop_succ_cons, List.drop_zero] at hF hN ⊢
    dsimp only [ext, Option.getD] at hF
    rw [e1] at hF
    refine tlStoreAt (Δ := [(0, Ty.ex (.slice (some ⟨g, off, none⟩) D.length cap)), (4, Ty.ex (.slice (some ⟨g, off + k * 32, none⟩) (D.length - k) (cap - k))), (3, Ty.ex (.int .i64 (j : Int))), (5, Ty.ex (.int .i64 (q : Int)))]) (k := j * 32) hF rfl rfl rfl rfl rfl (hseg.below hB) (by rw [u8s_size, Sm.len]; omega) (by rw [u8s_size, Sm.len]; exact sizeS) (u8s_one _) (hF.keep [0, 4, 3, 5]) rfl ?_
    intro w11 hF hseg2 hk2
    refine wpList_nil ?_
    repeat with_reducible refine nThen ?_
    replace hKw : Keeps [g] w w11 := (hKw.trans (Keeps.of_below hB)).trans hk2
    have hB := Below.refl w11.heap.size w11
    refine' reg_all hF ?_ mixed (by kernel_rfl) ?_
    rotate_left
    · repeat (first | exact Line.nil | ((refine' Line.cons rfl (.run rfl rfl ?_) ?_); (any_goals (first | exact cAdd (r := ((j + 1 : Nat) : Int)) rfl rfl rfl (by omega) | exact cMove rfl rfl | exact cAssign rfl rfl)); rotate_left))
    intro a w12 hF hb hN
    have hBs := hB.size
    replace hB := hB.trans (hb.mono hB.size)
    dsimp only [ext, Option.getD] at hF
    repeat with_reducible first | refine nThen ?_ | refine nBlk ?_
    refine' reg_all hF ?_ mixed (by kernel_rfl) ?_
    rotate_left
    · repeat (first | exact Line.nil | ((refine' Line.cons rfl (.run rfl rfl ?_) ?_); (any_goals (first | exact cAdd (r := ((q + 1 : Nat) : Int)) rfl rfl rfl (by omega) | exact cMove rfl rfl | exact cAssign rfl rfl)); rotate_left))
    intro a w13 hF hb hN
    have hBs := hB.size
    replace hB := hB.trans (hb.mono hB.size)
    dsimp only [ext, Option.getD] at hF
    repeat with_reducible refine nThen ?_
    have h7 : over (flat E) (j * 32) (u8s (D.getD (k + q) default).l).toList = flat (E.set j (D.getD (k + q) default)) := by
      rw [u8s_list]
      exact over_flat E _ (by omega)
    rw [h7] at hseg2
    have hdd2 : ddL D (k + (q + 1)) = ddL D (k + q) ++ [D.getD (k + q) default] := ddL_new (.inr hnew)
    refine ⟨m - 1, by omega, q + 1, j + 1, E.set j (D.getD (k + q) default), by omega, by omega, by simp [hE], ?_, by omega, ?_, fun i hi => ?_, hF.keep [0, 4, 3, 5], hseg2.below hB, hKw.trans (Keeps.of_below hB)⟩
    · rw [hdd2, List.length_append, ← hj]; rfl
    · rw [hdd2, ← hjt, take_snoc' _ (by rw [List.length_set]; omega), getD_set E _ (by omega), if_pos rfl, List.take_set_of_le (Nat.le_refl _)]
    · rw [getD_set E _ (by omega), if_neg (by omega)]
      exact hsame i (by omega)
  · have hold : D.getD (k + q) default = D.getD (k + q - 1) default := by simpa using hold
    repeat with_reducible first | refine nThen ?_ | refine nBlk ?_ | refine wp_skip ?_
    refine' reg_all hF ?_ mixed (by kernel_rfl) ?_
    rotate_left
    · repeat (first | exact Line.nil | ((refine' Line.cons rfl (.run rfl rfl ?_) ?_); (any_goals (first | exact cAdd (r := ((q + 1 : Nat) : Int)) rfl rfl rfl (by omega) | exact cMove rfl rfl | exact cAssign rfl rfl)); rotate_left))
    intro a w10 hF hb hN
    have hBs := hB.size
    replace hB := hB.trans (hb.mono hB.size)
    dsimp only [ext, Option.getD] at hF
    repeat with_reducible refine nThen ?_
    have hdd2 : ddL D (k + (q + 1)) = ddL D (k + q) := ddL_old (m := k + q) (by omega) hold
    exact ⟨m - 1, by omega, q + 1, j, E, by omega, by omega, hE, by rw [hdd2]; exact hj, by omega, by rw [hdd2]; exact hjt, fun i hi => hsame i (by omega), hF.keep [0, 4, 3, 5], hseg.below hB, hKw.trans (Keeps.of_below hB)⟩

set_option maxRecDepth 100000 in
theorem compact_none (w : World) : Calls Tryd.prog 39 #[.slice none 0 0] w fun e w' => e = .returned (.slice none 0 0) ∧ Below w.heap.size w w' := by
  refine enter_ty 61 [Ty.ex (.slice none 0 0)] Tryd.func39 rfl (by kernel_rfl) ⟨rfl, trivial⟩ fun a hF => ?_
  have hB := Below.refl w.heap.size w
  repeat with_reducible refine wp_seq ?_
  refine' reg_all hF ?_ mixed (by kernel_rfl) ?_
  rotate_left
  · repeat (first | exact Line.nil | ((refine' Line.cons rfl (.run rfl rfl ?_) ?_); (any_goals exact cAssign rfl rfl); rotate_left))
  intro a w1 hF hb hN
  have hBs := hB.size
  replace hB := hB.trans (hb.mono hB.size)
  dsimp only [ext, Option.getD] at hF
  repeat with_reducible first | refine wp_seq ?_ | refine nThen ?_
  refine' reg_all hF ?_ mixed (by kernel_rfl) ?_
  rotate_left
  · repeat (first | exact Line.nil | ((refine' Line.cons rfl (.run rfl rfl ?_) ?_); (any_goals (first | exact cLenEx rfl rfl Tryd.underlying33 | exact cMove rfl rfl | exact cLss rfl rfl rfl)); rotate_left))
  intro a w2 hF hb hN
  have hBs := hB.size
  replace hB := hB.trans (hb.mono hB.size)
  dsimp only [ext, Option.getD] at hF
  repeat with_reducible refine nThen ?_
  refine cond_ty hF rfl (fun h0 => ?_) (fun h1 => ?_)
  · repeat with_reducible refine wp_seq ?_
    refine' reg_all hF ?_ mixed (by kernel_rfl) ?_
    rotate_left
    · repeat (first | exact Line.nil | ((refine' Line.cons rfl (.run rfl rfl ?_) ?_); (any_goals (first | exact cMove rfl rfl | exact cAssign rfl rfl)); rotate_left))
    intro a w3 hF hb hN
    have hBs := hB.size
    replace hB := hB.trans (hb.mono hB.size)
    dsimp only [ext, Option.getD] at hF
    repeat with_reducible first | refine nThen ?_ | refine wp_ret ?_ | refine rThen ?_
    refine ret1 hF rfl rfl fun z hz => ?_
    have hz : z = .slice none 0 0 := hz
    subst hz
    exact ⟨rfl, hB⟩
  · exact absurd (of_decide_eq_false h1) (by decide)

/-- A set's row: sorted, each once. -/
def setL (D : List Sm) : List Sm := ddL (sortL D) D.length
theorem setL_len (D : List Sm) : (setL D).length ≤ D.length := ddL_le _ _
set_option maxRecDepth 100000 in
set_option maxHeartbeats 1000000 in
theorem of_ty (D : List Sm) (hD : D.length ≤ 1000000) : FnSeg1 Tryd.prog 21 (Ty.sums 25 D) 25 32 (setL D).length (flat (setL D)) := by
  refine ⟨fun args w => by kernel_rfl, fun w v hv => ?_⟩
  refine enter_ty 10 [Ty.sums 25 D] Tryd.func21 rfl (by kernel_rfl) ⟨hv, trivial⟩ fun a hF => ?_
  have hB := Below.refl w.heap.size w
  repeat with_reducible refine wp_seq ?_
  refine' reg_all hF ?_ mixed (by kernel_rfl) ?_
  rotate_left
  · repeat (first | exact Line.nil | ((refine' Line.cons rfl (.run rfl rfl ?_) ?_); (any_goals exact cAssign rfl rfl); rotate_left))
  intro a w1 hF hb hN
  have hBs := hB.size
  replace hB := hB.trans (hb.mono hB.size)
  dsimp only [ext, Option.getD] at hF
  repeat with_reducible first | refine wp_seq ?_ | refine nThen ?_
  refine' reg_all hF ?_ mixed (by kernel_rfl) ?_
  rotate_left
  · repeat (first | exact Line.nil | ((refine' Line.cons rfl (.run rfl rfl ?_) ?_); (any_goals (first | exact cCallS1 rfl (.t rfl) (cloneS_ty D hD) | exact cMove rfl rfl | exact cAssign rfl rfl)); rotate_left))
  intro a w2 hF hb hN
  have hBs := hB.size
  replace hB := hB.trans (hb.mono hB.size)
  dsimp only [ext, Option.getD] at hF
  repeat with_reducible first | refine wp_seq ?_ | refine nThen ?_
  obtain ⟨u, ⟨S, hseg, hS⟩, hF⟩ := hF.open (s := 3) rfl
  replace hS : ∀ y ∈ S, w.heap.size ≤ y := fun y hy => Nat.le_trans hBs (hS y hy)
  have hen : Enters Tryd.prog 37 := fun args w => by kernel_rfl
  have hec : Enters Tryd.prog 39 := fun args w => by kernel_rfl
  rcases hseg.cases with ⟨rfl, h0, h1, rfl⟩ | ⟨g, off, cap, rfl, rfl, hl⟩
  · have hD0 : D = [] := List.eq_nil_of_length_eq_zero h0
    subst hD0
    refine' region_ty 1 mixed (by kernel_rfl) hF ?_ ?_
    rotate_left
    · simp only [List.take_succ_cons, List.take_zero]
      repeat (first | exact Line.nil | ((refine' Line.cons rfl (.run rfl rfl ?_) ?_); (any_goals exact cMove rfl rfl); rotate_left))
    intro a w3 hF hb hN
    have hBs := hB.size
    replace hB := hB.trans (hb.mono hB.size)
    simp only [List.take_succ_cons, List.take_zero, List.drop_succ_cons, List.drop_zero] at hF hN ⊢
    dsimp only [ext, Option.getD] at hF
    refine tlCall rfl rfl rfl (args := #[.slice none 0 0, .func (.func 38) #[] #[]]) ?_ hen (sort_none w3) ?_
    · simp only [List.map_toArray, List.map_cons, List.map_nil, hF.getEx (s := 6) rfl]
      rfl
    rintro z w4 rfl
    have hF := (hF.keep [3]).put (d := 7) (by decide) (Below.refl _ _) (V := Ty.ex z) rfl
    refine wpList_nil ?_
    repeat with_reducible first | refine wp_seq ?_ | refine nThen ?_
    refine' reg_all hF ?_ mixed (by kernel_rfl) ?_
    rotate_left
    · repeat (first | exact Line.nil | ((refine' Line.cons rfl (.run rfl rfl ?_) ?_); (any_goals (first | exact cCallW1 rfl rfl hec (fun W x hb hx => by have hx : x = .slice none 0 0 := hx; subst hx; exact (compact_none W).mono fun _ _ ⟨a, b⟩ => ⟨_, a, rfl, b⟩) (ρ := Ty.ex (.slice none 0 0)) | exact cMove rfl rfl | exact cAssign rfl rfl)); rotate_left))
    intro a w5 hF hb hN
    have hBs := hB.size
    replace hB := hB.trans (hb.mono hB.size)
    dsimp only [ext, Option.getD] at hF
    repeat with_reducible first | refine nThen ?_ | refine wp_ret ?_
    refine ret1 hF rfl rfl fun z hz => ?_
    have hz : z = .slice none 0 0 := hz
    subst hz
    exact ⟨_, rfl, ⟨[], Seg.nil _ _ _, by simp⟩, hB⟩
  · have hg : w.heap.size ≤ g := hS g (by simp)
    refine' region_ty 1 mixed (by kernel_rfl) hF ?_ ?_
    rotate_left
    · simp only [List.take_succ_cons, List.take_zero]
      repeat (first | exact Line.nil | ((refine' Line.cons rfl (.run rfl rfl ?_) ?_); (any_goals exact cMove rfl rfl); rotate_left))
    intro a w3 hF hb hN
    have hBs := hB.size
    replace hB := hB.trans (hb.mono hB.size)
    simp only [List.take_succ_cons, List.take_zero, List.drop_succ_cons, List.drop_zero] at hF hN ⊢
    dsimp only [ext, Option.getD] at hF
    refine tlCall rfl rfl rfl (args := #[.slice (some ⟨g, off, none⟩) D.length cap, .func (.func 38) #[] #[]]) ?_ hen (sort_any D w3 g off cap (hl.below hb) hD) ?_
    · simp only [List.map_toArray, List.map_cons, List.map_nil, hF.getEx (s := 6) rfl]
      rfl
    rintro z w4 ⟨hl4, hk4⟩
    have hF := ((hF.keep [3]).free1 hk4 (hl.below hb) rfl).put (d := 7) (by decide) (Below.refl _ _) (V := Ty.ex z) rfl
    replace hB := below_own hB hk4 (by simpa using hg)
    refine wpList_nil ?_
    repeat with_reducible first | refine wp_seq ?_ | refine nThen ?_
    have hsl := sortL_len D
    refine' region_ty 1 mixed (by kernel_rfl) hF ?_ ?_
    rotate_left
    · simp only [List.take_succ_cons, List.take_zero]
      repeat (first | exact Line.nil | ((refine' Line.cons rfl (.run rfl rfl ?_) ?_); (any_goals exact cMove rfl rfl); rotate_left))
    intro a w5 hF hb hN
    have hBs := hB.size
    replace hB := hB.trans (hb.mono hB.size)
    simp only [List.take_succ_cons, List.take_zero, List.drop_succ_cons, List.drop_zero] at hF hN ⊢
    dsimp only [ext, Option.getD] at hF
    refine tlCall rfl rfl rfl (args := #[.slice (some ⟨g, off, none⟩) D.length cap]) ?_ hec (R := fun u w' => u = .slice (some ⟨g, off, none⟩) (setL D).length cap ∧ SegL w' 25 32 g off (setL D).length cap (flat (setL D)) ∧ Keeps [g] w5 w') ?_ ?_
    · simp only [List.map_toArray, List.map_cons, List.map_nil, hF.getEx (s := 8) rfl]
    · have h := compact_any (sortL D) w5 g off cap (by rw [hsl]; exact hl4.below hb) (by omega)
      rw [hsl] at h
      refine h.mono fun e w' ⟨k, h1, h2, h3, h4⟩ => ?_
      subst h2
      exact ⟨_, h1, rfl, h3, h4⟩
    rintro z w6 ⟨rfl, hl6, hk6⟩
    have hF := ((hF.keep []).free1 hk6 (hl4.below hb) rfl).put (d := 9) (by decide) (Below.refl _ _) (V := Ty.ex (.slice (some ⟨g, off, none⟩) (setL D).length cap)) rfl
    replace hB := below_own hB hk6 (by simpa using hg)
    refine' tlOp hF rfl rfl rfl ?_ ?_
    rotate_left
    · exact cAssign rfl rfl
    intro a w7 hF hb
    have hBs := hB.size
    replace hB := hB.trans (hb.mono hB.size)
    try (refine wpList_nil ?_)
    repeat with_reducible first | refine nThen ?_ | refine wp_ret ?_
    refine ret1 hF rfl rfl fun z hz => ?_
    have hz : z = .slice (some ⟨g, off, none⟩) (setL D).length cap := hz
    subst hz
    exact ⟨_, rfl, ⟨[g], (hl6.below hb).seg, by simpa using hg⟩, hB⟩
end Go.Proofs.YtgmeagkolahkoaaDoor

/- Layer 10, plainly: a set's row is strictly rising, holds the same. -/
namespace Go.Proofs.YtgmeagkolahkoaaDoor
open Go.RowKit

def srt (L : List Sm) : Prop := L.Pairwise fun x y => cmpL x.l y.l < 0
theorem Sm.ext' {x y : Sm} (h : x.l = y.l) : x = y := by
  cases x; cases y; simp only at h; subst h; rfl
theorem cmp_self (x : Sm) : cmpL x.l x.l = 0 := (cmpL_eq _ _).2 rfl
theorem cmp_zero {x y : Sm} : cmpL x.l y.l = 0 ↔ x = y := ⟨fun h => Sm.ext' ((cmpL_eq _ _).1 h), fun h => by rw [h]; exact cmp_self y⟩
theorem cmp_lt_trans {x y z : Sm} (h1 : cmpL x.l y.l ≤ 0) (h2 : cmpL y.l z.l ≤ 0) (h : cmpL x.l y.l < 0 ∨ cmpL y.l z.l < 0) : cmpL x.l z.l < 0 := (cmpL_trans _ _ _ h1 h2).2 h
theorem sortL_le (D : List Sm) : (sortL D).Pairwise fun x y => cmpL x.l y.l ≤ 0 := by
  have h := List.pairwise_mergeSort (le := fun x y : Sm => !ltS y x) (fun a b c h1 h2 => by
    simp only [ltS, Bool.not_eq_true', decide_eq_false_iff_not] at *
    have s1 := cmpL_swap a.l b.l
    have s2 := cmpL_swap b.l c.l
    have s3 := cmpL_swap a.l c.l
    have := (cmpL_trans a.l b.l c.l (by omega) (by omega)).1
    omega) (fun a b => by
    simp only [ltS, Bool.or_eq_true, Bool.not_eq_true', decide_eq_false_iff_not] at *
    have s1 := cmpL_swap a.l b.l
    omega) D
  refine List.Pairwise.imp ?_ h
  intro x y h
  simp only [ltS, Bool.not_eq_true', decide_eq_false_iff_not] at h
  have s1 := cmpL_swap x.l y.l
  omega
theorem sortL_mem (D : List Sm) (x : Sm) : x ∈ sortL D ↔ x ∈ D := (List.mergeSort_perm D _).mem_iff
theorem le_get {D : List Sm} (h : D.Pairwise fun x y => cmpL x.l y.l ≤ 0) {i j : Nat} (hij : i < j) (hj : j < D.length) : cmpL (D.getD i default).l (D.getD j default).l ≤ 0 := by
  have h1 := List.pairwise_iff_getElem.1 h i j (by omega) hj hij
  simpa [List.getD, hj, show i < D.length by omega] using h1
theorem lt_get {D : List Sm} (h : srt D) {i j : Nat} (hij : i < j) (hj : j < D.length) : cmpL (D.getD i default).l (D.getD j default).l < 0 := by
  have h1 := List.pairwise_iff_getElem.1 h i j (by omega) hj hij
  simpa [List.getD, hj, show i < D.length by omega] using h1
theorem ddL_facts {D : List Sm} (h : D.Pairwise fun x y => cmpL x.l y.l ≤ 0) : ∀ m, m ≤ D.length → srt (ddL D m) ∧ ∀ x, x ∈ ddL D m ↔ ∃ j, j < m ∧ D.getD j default = x
  | 0, _ => ⟨List.Pairwise.nil, fun x => by simp [ddL]⟩
  | m + 1, hm => by
    obtain ⟨h1, h2⟩ := ddL_facts h m (by omega)
    by_cases hn : m = 0 ∨ ¬ D.getD m default = D.getD (m - 1) default
    · rw [ddL_new hn]
      constructor
      · refine List.pairwise_append.2 ⟨h1, List.pairwise_singleton _ _, fun x hx y hy => ?_⟩
        obtain ⟨j, hj, rfl⟩ := (h2 x).1 hx
        simp only [List.mem_singleton] at hy
        subst hy
        have hn : ¬ D.getD m default = D.getD (m - 1) default := hn.resolve_left (by omega)
        have a1 := le_get h (i := m - 1) (j := m) (by omega) (by omega)
        have a2 : ¬ cmpL (D.getD (m - 1) default).l (D.getD m default).l = 0 := fun e => hn (cmp_zero.1 e).symm
        by_cases hjm : j = m - 1
        · subst hjm; omega
        · exact cmp_lt_trans (le_get h (i := j) (j := m - 1) (by omega) (by omega)) a1 (.inr (by omega))
      · intro x
        rw [List.mem_append, h2, List.mem_singleton]
        constructor
        · rintro (⟨j, hj, rfl⟩ | rfl)
          · exact ⟨j, by omega, rfl⟩
          · exact ⟨m, by omega, rfl⟩
        · rintro ⟨j, hj, rfl⟩
          by_cases hjm : j = m
          · subst hjm; exact .inr rfl
          · exact .inl ⟨j, by omega, rfl⟩
    · have hn' : ¬ m = 0 ∧ D.getD m default = D.getD (m - 1) default := by
        refine ⟨fun e => hn (.inl e), Classical.byContradiction fun e => hn (.inr e)⟩
      rw [ddL_old hn'.1 hn'.2]
      refine ⟨h1, fun x => ?_⟩
      rw [h2]
      constructor
      · rintro ⟨j, hj, rfl⟩
        exact ⟨j, by omega, rfl⟩
      · rintro ⟨j, hj, rfl⟩
        by_cases hjm : j = m
        · subst hjm; exact ⟨j - 1, by omega, hn'.2.symm⟩
        · exact ⟨j, by omega, rfl⟩
theorem setL_srt (D : List Sm) : srt (setL D) := by
  have h := (ddL_facts (sortL_le D) D.length (by rw [sortL_len]; exact Nat.le_refl _)).1
  exact h
theorem setL_mem (D : List Sm) (x : Sm) : x ∈ setL D ↔ x ∈ D := by
  have h := (ddL_facts (sortL_le D) D.length (by rw [sortL_len]; exact Nat.le_refl _)).2 x
  refine h.trans ?_
  rw [← sortL_mem D x, mem_get, sortL_len]
theorem srt_ext : ∀ {L M : List Sm}, srt L → srt M → (∀ x, x ∈ L ↔ x ∈ M) → L = M
  | [], [], _, _, _ => rfl
  | [], y :: M, _, _, h => absurd ((h y).2 (by simp)) (by simp)
  | x :: L, [], _, _, h => absurd ((h x).1 (by simp)) (by simp)
  | x :: L, y :: M, hL, hM, h => by
    obtain ⟨a1, a2⟩ := List.pairwise_cons.1 hL
    obtain ⟨b1, b2⟩ := List.pairwise_cons.1 hM
    have hxy : x = y := by
      rcases List.mem_cons.1 ((h x).1 (by simp)) with e | e
      · exact e
      rcases List.mem_cons.1 ((h y).2 (by simp)) with e' | e'
      · exact e'.symm
      have c1 := b1 x e
      have c2 := a1 y e'
      have := cmpL_swap x.l y.l
      omega
    subst hxy
    congr 1
    refine srt_ext a2 b2 fun z => ?_
    have hz := h z
    simp only [List.mem_cons] at hz
    constructor
    · intro hz1
      rcases hz.1 (.inr hz1) with e | e
      · subst e; have := a1 z hz1; rw [cmp_self] at this; omega
      · exact e
    · intro hz1
      rcases hz.2 (.inr hz1) with e | e
      · subst e; have := b1 z hz1; rw [cmp_self] at this; omega
      · exact e
theorem setL_self {L : List Sm} (h : srt L) : setL L = L := srt_ext (setL_srt L) h (setL_mem L)
end Go.Proofs.YtgmeagkolahkoaaDoor

/- Layer 14 by types: ints, awake. -/
namespace Go.Proofs.YtgmeagkolahkoaaDoor
open Go.RowKit

theorem ivn_drop {L : List Nat} {k : Nat} (h : k < L.length) : (L.map ivn).drop k = ivn (L.getD k 0) :: (L.map ivn).drop (k + 1) := by
  have h1 : k < (L.map ivn).length := by rw [List.length_map]; exact h
  rw [List.drop_eq_getElem_cons h1]
  congr 1
  rw [List.getElem_map]
  simp [List.getD, List.getElem?_eq_getElem h]
theorem sizeI : (Tryd.prog.info? 3).map (·.size) = some 1 := by kernel_rfl
end Go.Proofs.YtgmeagkolahkoaaDoor

/- Layer 15 by types: table.Of. -/
namespace Go.Proofs.YtgmeagkolahkoaaDoor
open Go.RowKit

theorem cAllocN {P : Program} {w0 : World} {Γ : Ctx} {o : Oper} {t : TypeId} {z : Array Value} (ho : o.op = .alloc t) (hz : ∀ w : World, (Instr.alloc t true (.tuple #[])).run P w = .ok (.pointer (some ⟨w.heap.size, 0, none⟩)) (w.alloc (.cells z t))) : OpOk P w0 Γ o (Ty.var w0 t z) :=
  .new fun a w hb _ => ⟨_, _, ⟨w.heap.size, rfl, hb.size, Blk.new w _ _⟩, ((Keeps.refl [] w).alloc _).below, by unfold execOp; simp [ho, hz]⟩
section
variable {P : Program} {w0 : World} {Γ : Ctx} {o : Oper} {x : Operand} {e : TypeId} {seed : Nat} {L : List Cl} {err : Value} {w1 : World}
theorem cExtT (ho : o.op = .extract x 0) (hx : OpT Γ x (Ty.tabE w1 e seed L err)) : OpOk P w0 Γ o (Ty.tabO w1 e seed L) :=
  .val fun a w _ hs => by
    obtain ⟨v, h1, u, h2, h3⟩ := hs x _ (by simp [ho, Op.operands]) hx
    refine ⟨u, h3, ?_⟩
    unfold execOp
    simp [ho, h1, h2, Instr.extract]
theorem cExtE (ho : o.op = .extract x 1) (hx : OpT Γ x (Ty.tabE w1 e seed L err)) : OpOk P w0 Γ o (Ty.ex err) :=
  .val fun a w _ hs => by
    obtain ⟨v, h1, u, h2, h3⟩ := hs x _ (by simp [ho, Op.operands]) hx
    refine ⟨err, rfl, ?_⟩
    unfold execOp
    simp [ho, h1, h2, Instr.extract]
end
theorem placesN_len3 (seed : Nat) (n : Int) (x : Sm) : (placesN seed n x).length ≤ 3 := by
  unfold placesN
  split
  · rw [plc_len]; exact Nat.le_refl _
  · simp
/-- The cells of a set's table. -/
def ofL (seed : Nat) (n : Int) (D : List Sm) : List Cl := if goodN n then tall seed (tzero n.toNat) (setL D) 1 else []
theorem tall_snoc (seed : Nat) (L : List Cl) (xs : List Sm) (x : Sm) (n : Int) : tall seed L (xs ++ [x]) n = tput seed (tall seed L xs n) x n := by unfold tall; rw [List.foldl_append]; rfl
theorem take_snocN (P : List Nat) {j : Nat} (h : j < P.length) : P.take (j + 1) = P.take j ++ [P.getD j 0] := by
  rw [List.take_succ_eq_append_getElem h]
  simp [List.getD, List.getElem?_eq_getElem h]
theorem fold_snoc (P : List Nat) {j : Nat} (h : j < P.length) (L : List Cl) (x : Sm) (n : Int) : (P.take (j + 1)).foldl (fun L i => tputAt L i x n) L = tputAt ((P.take j).foldl (fun L i => tputAt L i x n) L) (P.getD j 0) x n := by
  rw [take_snocN P h, List.foldl_append]
  rfl
theorem getD_mem {P : List Nat} {j : Nat} (h : j < P.length) : P.getD j 0 ∈ P := by
  simp only [List.getD, List.getElem?_eq_getElem h, Option.getD_some]
  exact List.getElem_mem h
/-- An element of a row of one's own, as an address. -/
theorem cell_at {w : World} {e : TypeId} {g off n cap : Nat} {L : List Cl} (h : SegL w e 65 g off n cap (flatC L)) {i : Nat} (hi : i < L.length) : (Ty.at_ e (L.getD i default).enc).p w (.pointer (some ⟨g, off + i * 65, none⟩)) := by
  obtain ⟨g', off', he, h⟩ := SlP.elem (k := i * 65) h.sl (by rw [flatC_len]; omega)
  simp only [Option.some.injEq, Addr.mk.injEq] at he
  obtain ⟨rfl, rfl, _⟩ := he
  have h := h (i * 65)
  rw [flatC_at _ hi] at h
  exact at_pre _ _ h
theorem segl_far {w : World} {e t : TypeId} {sz g off n cap g2 : Nat} {xs : List Value} {cs : Array Value} (h : SegL w e sz g off n cap xs) (hb : Blk w g2 t cs) (hne : (t == e) = false) : g2 ≠ g := fun hm => by
  subst hm
  obtain ⟨cs', fr, h1⟩ := h.block
  unfold Blk at hb
  rw [hb] at h1
  simp only [Option.some.injEq, Obj.cells.injEq] at h1
  rw [h1.2.1] at hne
  simp at hne
set_option maxRecDepth 100000 in
set_option maxHeartbeats 4000000 in
theorem tof_ty (seed : Nat) (n : Int) (D : List Sm) (hD : D.length ≤ 1000000) (hsd : seed < 18446744073709551616) : FnR3 Tryd.prog 23 (Ty.ex (.int .u64 (seed : Int))) (Ty.ex (.int .i64 n)) (Ty.sums 25 D) (fun w => Ty.tabE w 27 (newS seed n) (ofL seed n D) (newE n)) := by
  refine ⟨fun args w => by kernel_rfl, fun w v u q hv hu hq => ?_⟩
  have hNw := tnew_ty seed n
  refine enter_ty 54 [Ty.ex (.int .u64 (seed : Int)), Ty.ex (.int .i64 n), Ty.ex q] Tryd.func23 rfl (by kernel_rfl) ⟨hv, hu, rfl, trivial⟩ fun a hF => ?_
  have hB := Below.refl w.heap.size w
  let TD := Ty.sums 25 D
  repeat with_reducible refine wp_seq ?_
  refine' reg_all hF ?_ mixed (by kernel_rfl) ?_
  rotate_left
  · repeat (first
        | exact Line.nil
        | (refine' Line.cons rfl (.new rfl rfl (run_alloc_i infoT46) rfl) ?_; rotate_left)
        | ((refine' Line.cons rfl (.run rfl rfl ?_) ?_)
           any_goals exact cAssign rfl rfl
           rotate_left))
  intro a w1 hF hb hN
  have hBs := hB.size
  replace hB := hB.trans (hb.mono hB.size)
  dsimp only [ext, Option.getD] at hF
  repeat with_reducible first | refine wp_seq ?_ | refine nThen ?_
  obtain ⟨z, ⟨g6, rfl, hg6, hb6⟩, hF⟩ := hF.open (s := 6) rfl
  have hg6 : w.heap.size ≤ g6 := hg6
  refine wp_region_lit ?_
  refine' tlOp hF rfl rfl rfl ?_ ?_
  rotate_left
  · exact cMove rfl rfl
  intro a w2 hF hb
  have hBs := hB.size
  replace hB := hB.trans (hb.mono hB.size)
  try (refine wpList_nil ?_)
  replace hb6 := hb6.below hb
  refine' tlOp hF rfl rfl rfl ?_ ?_
  rotate_left
  · exact cMove rfl rfl
  intro a w3 hF hb
  have hBs := hB.size
  replace hB := hB.trans (hb.mono hB.size)
  try (refine wpList_nil ?_)
  replace hb6 := hb6.below hb
  have hw3 := hB.size
  refine' tlOp hF rfl rfl rfl ?_ ?_
  rotate_left
  · exact cCallR2 rfl (.t rfl) (.t rfl) hNw (tabE_olds _ _ _ _)
  intro a w4 hF hb
  have hBs := hB.size
  replace hB := hB.trans (hb.mono hB.size)
  try (refine wpList_nil ?_)
  replace hb6 := hb6.below hb
  refine' tlOp hF rfl rfl rfl ?_ ?_
  rotate_left
  · exact cMove rfl rfl
  intro a w5 hF hb
  have hBs := hB.size
  replace hB := hB.trans (hb.mono hB.size)
  try (refine wpList_nil ?_)
  replace hb6 := hb6.below hb
  refine' tlOp hF rfl rfl rfl ?_ ?_
  rotate_left
  · exact cExtT rfl rfl
  intro a w6 hF hb
  have hBs := hB.size
  replace hB := hB.trans (hb.mono hB.size)
  try (refine wpList_nil ?_)
  replace hb6 := hb6.below hb
  refine' tlOp hF rfl rfl rfl ?_ ?_
  rotate_left
  · exact cExtE rfl rfl
  intro a w7 hF hb
  have hBs := hB.size
  replace hB := hB.trans (hb.mono hB.size)
  try (refine wpList_nil ?_)
  replace hb6 := hb6.below hb
  have hlt6 := hb6.lt
  have hw7 := hB.size
  refine' tlOp hF rfl rfl rfl ?_ ?_
  rotate_left
  · exact cAllocN rfl (run_alloc_i infoT46)
  intro a w8 hF hb
  have hBs := hB.size
  replace hB := hB.trans (hb.mono hB.size)
  try (refine wpList_nil ?_)
  replace hb6 := hb6.below hb
  obtain ⟨z, ⟨g8, rfl, hg8, hb8⟩, hF⟩ := hF.open (s := 8) rfl
  have hg8 : w7.heap.size ≤ g8 := hg8
  obtain ⟨z, ⟨s18, rfl, S18, hs18, hS18⟩, hF⟩ := hF.open (s := 18) rfl
  refine tlStoreV (Δ := [(0, Ty.ex (.int .u64 (seed : Int))), (1, Ty.ex (.int .i64 n)), (2, Ty.ex q), (6, Ty.ex (.pointer (some ⟨g6, 0, none⟩))), (8, Ty.ex (.pointer (some ⟨g8, 0, none⟩))), (19, Ty.ex (newE n))]) hF rfl rfl rfl rfl (hF.getEx (s := 18) rfl) hb8 rfl sizeT46 (sl_one hs18.sl _) (hF.keep [0, 1, 2, 6, 8, 19]) rfl ?_
  intro w9 hF hb8' hkx
  replace hb6 := hb6.keeps hkx (by simp only [List.mem_singleton]; intro h; subst h; omega)
  replace hs18 := hs18.keeps hkx (seg_far hs18 hb8 (by decide))
  replace hB := below_own hB hkx (by intro y hy; simp only [List.mem_singleton] at hy; omega)
  replace hb8 : Blk w9 g8 38 #[.int .u64 (newS seed n : Int), s18] := hb8'
  have hne68 : g6 ≠ g8 := by omega
  clear hb8' hkx hlt6
  refine' tlOp hF rfl rfl rfl ?_ ?_
  rotate_left
  · exact cAssign rfl rfl
  intro a w10 hF hb
  have hBs := hB.size
  replace hB := hB.trans (hb.mono hB.size)
  try (refine wpList_nil ?_)
  repeat with_reducible first | refine wp_seq ?_ | refine nThen ?_
  replace hb6 := hb6.below hb
  replace hb8 := hb8.below hb
  replace hs18 := hs18.below hb
  replace hF := hF.keep [0, 1, 2, 6, 8, 9]
  dsimp only [pick, look] at hF
  by_cases hgn : goodN n = true
  rotate_left
  · have hgn : goodN n = false := by simpa using hgn
    have e1 : newS seed n = 0 := by unfold newS; rw [hgn]; rfl
    have e2 : ofL seed n D = [] := by unfold ofL; rw [hgn]; rfl
    have e3 : newE n = .int .i64 1 := by unfold newE; rw [hgn]; rfl
    rw [e1, e2, e3]
    rw [e3] at hF
    refine' reg_all hF ?_ mixed (by kernel_rfl) ?_
    rotate_left
    · repeat (first | exact Line.nil | ((refine' Line.cons rfl (.run rfl rfl ?_) ?_); (any_goals (first | exact cMove rfl rfl | exact OpOk.b (c := true) (cNeq rfl rfl rfl) rfl)); rotate_left))
    intro a w11 hF hb hN
    have hBs := hB.size
    replace hB := hB.trans (hb.mono hB.size)
    dsimp only [ext, Option.getD] at hF
    repeat with_reducible refine nThen ?_
    replace hb6 := hb6.below hb
    refine cond_t hF rfl ?_
    repeat with_reducible refine wp_seq ?_
    refine wp_region_lit ?_
    refine' tlOp hF rfl rfl rfl ?_ ?_
    rotate_left
    · exact cBuildE rfl (fun w => buildT046 w)
    intro a w12 hF hb
    have hBs := hB.size
    replace hB := hB.trans (hb.mono hB.size)
    try (refine wpList_nil ?_)
    replace hb6 := hb6.below hb
    refine' tlOp hF rfl rfl rfl ?_ ?_
    rotate_left
    · exact cMove rfl rfl
    intro a w12 hF hb
    have hBs := hB.size
    replace hB := hB.trans (hb.mono hB.size)
    try (refine wpList_nil ?_)
    replace hb6 := hb6.below hb
    refine tlStoreV (Δ := [(6, Ty.ex (.pointer (some ⟨g6, 0, none⟩))), (23, Ty.ex (.int .i64 1))]) hF rfl rfl rfl rfl (hF.getEx (s := 22) rfl) hb6 rfl sizeT46 (tabCells 0 _ _ _) (hF.keep [6, 23]) rfl ?_
    intro w13 hF hb6 hkx
    replace hB := below_own hB hkx (by intro y hy; simp only [List.mem_singleton] at hy; omega)
    refine' tlOp hF rfl rfl rfl ?_ ?_
    rotate_left
    · exact cAssign rfl rfl
    intro a w14 hF hb
    have hBs := hB.size
    replace hB := hB.trans (hb.mono hB.size)
    try (refine wpList_nil ?_)
    repeat with_reducible first | refine nThen ?_ | refine wp_ret ?_ | refine rThen ?_
    refine retCell2 hF rfl rfl rfl (hb6.below hb) Tryd.underlying38 rfl sizeT46 ?_
    exact ⟨_, rfl, ⟨_, rfl, _, rfl, [], Seg.nil _ _ _, by simp⟩, hB⟩
  obtain ⟨N, rfl, hN1, hN2⟩ := goodN_rng hgn
  have e1 : newS seed (N : Int) = seed := by unfold newS; rw [hgn]; rfl
  have e2 : ofL seed (N : Int) D = tall seed (tzero N) (setL D) 1 := by unfold ofL; rw [hgn, Int.toNat_natCast]; rfl
  have e3 : newE (N : Int) = .int .i64 0 := by unfold newE; rw [hgn]; rfl
  have e4 : newL (N : Int) = tzero N := by unfold newL; rw [hgn, Int.toNat_natCast]; rfl
  rw [e1, e2, e3]
  rw [e1] at hb8
  rw [e3] at hF
  rw [e4, tzero_len] at hs18
  obtain ⟨g, off, cap, es, rfl, hsl⟩ : ∃ g off cap, s18 = .slice (some ⟨g, off, none⟩) N cap ∧ S18 = [g] ∧ SegL w10 27 65 g off N cap (flatC (tzero N)) := by
    rcases hs18.cases with ⟨_, h0, _⟩ | h
    · omega
    · exact h
  have hgw : w.heap.size ≤ g := Nat.le_trans hw3 (hS18 g (by simp))
  rw [es] at hb8
  clear hs18 hS18 e1 e2 e3 e4 es
  refine' reg_all hF ?_ mixed (by kernel_rfl) ?_
  rotate_left
  · repeat (first | exact Line.nil | ((refine' Line.cons rfl (.run rfl rfl ?_) ?_); (any_goals (first | exact cMove rfl rfl | exact OpOk.b (c := false) (cNeq rfl rfl rfl) rfl)); rotate_left))
  intro a w11 hF hb hN
  have hBs := hB.size
  replace hB := hB.trans (hb.mono hB.size)
  dsimp only [ext, Option.getD] at hF
  repeat with_reducible refine nThen ?_
  replace hb6 := hb6.below hb
  replace hb8 := hb8.below hb
  replace hsl := hsl.below hb
  refine cond_f hF rfl ?_
  repeat with_reducible first | refine wp_seq ?_ | refine nThen ?_ | refine wp_skip ?_
  have hq11 := TD.below hq hB
  have hw11 := hB.size
  refine' reg_all hF ?_ mixed (by kernel_rfl) ?_
  rotate_left
  · repeat (first | exact Line.nil | ((refine' Line.cons rfl (.run rfl rfl ?_) ?_); (any_goals (first | exact cMove rfl rfl | exact cCallS1 rfl (.l rfl hq11) (of_ty D hD) | exact cLenH rfl (.t rfl) (Ty.seg_isSl _ _ _ _ _) Tryd.underlying34)); rotate_left))
  intro a w12 hF hb hN
  have hBs := hB.size
  replace hB := hB.trans (hb.mono hB.size)
  dsimp only [ext, Option.getD] at hF
  repeat with_reducible first | refine nThen ?_ | refine wp_block ?_
  replace hb6 := hb6.below hb
  replace hb8 := hb8.below hb
  replace hsl := hsl.below hb
  have hXl := setL_len D
  generalize setL D = X at *
  obtain ⟨v25, ⟨S25, hs25, hS25⟩, hF⟩ := hF.open (s := 25) rfl
  refine loop_ty (fun m a wr => ∃ k : Nat, k + m = X.length ∧ Fr 54 [(0, Ty.ex (.int .u64 (seed : Int))), (1, Ty.ex (.int .i64 (N : Int))), (6, Ty.ex (.pointer (some ⟨g6, 0, none⟩))), (8, Ty.ex (.pointer (some ⟨g8, 0, none⟩))), (25, Ty.ex v25), (26, Ty.ex (.int .i64 (X.length : Int))), (27, Ty.ex (.int .i64 (k : Int)))] a wr ∧ Below w.heap.size w wr ∧ Blk wr g6 38 zeroT ∧ Blk wr g8 38 #[.int .u64 (seed : Int), .slice (some ⟨g, off, none⟩) N cap] ∧ SegL wr 27 65 g off N cap (flatC (tall seed (tzero N) (X.take k) 1)) ∧ Seg wr 25 32 v25 X.length (flat X) S25) X.length ?_ ?_
  · exact ⟨0, by omega, hF.keep [0, 1, 6, 8, 25, 26, 27], hB, hb6, hb8, hsl, hs25⟩
  clear hF hB hb6 hb8 hsl hs25
  rintro m a wr ⟨k, hk, hF, hB, hb6, hb8, hsl, hs25⟩
  repeat with_reducible refine wp_seq ?_
  refine' reg_all hF ?_ mixed (by kernel_rfl) ?_
  rotate_left
  · repeat (first | exact Line.nil | ((refine' Line.cons rfl (.run rfl rfl ?_) ?_); (any_goals exact cLss rfl rfl rfl); rotate_left))
  intro a w13 hF hb hN
  have hBs := hB.size
  replace hB := hB.trans (hb.mono hB.size)
  dsimp only [ext, Option.getD] at hF
  repeat with_reducible first | refine wp_seq ?_ | refine nThen ?_
  replace hb6 := hb6.below hb
  replace hb8 := hb8.below hb
  replace hsl := hsl.below hb
  replace hs25 := hs25.below hb
  refine cond_ty hF rfl (fun hlt => ?_) (fun hge => ?_)
  rotate_left
  · have hge : ¬ k < X.length := by have := of_decide_eq_false hge; omega
    obtain rfl : k = X.length := by omega
    rw [List.take_length] at hsl
    have h8 : (Ty.at_ 38 [.int .u64 (seed : Int), .slice (some ⟨g, off, none⟩) N cap]).p w13 (.pointer (some ⟨g8, 0, none⟩)) := blk_at hb8
    have hn6 := segl_far hsl hb6 (by decide)
    repeat with_reducible first | refine wp_seq ?_ | refine nThen ?_ | refine wp_exit ?_ | refine xThen ?_ | refine xHere ?_
    refine wp_region_lit ?_
    refine' tlOp hF rfl rfl rfl ?_ ?_
    rotate_left
    · exact cLoadT46 rfl (.l rfl h8)
    intro a w14 hF hb
    have hBs := hB.size
    replace hB := hB.trans (hb.mono hB.size)
    try (refine wpList_nil ?_)
    replace hb6 := hb6.below hb
    replace hsl := hsl.below hb
    refine tlStoreV (Δ := [(6, Ty.ex (.pointer (some ⟨g6, 0, none⟩)))]) hF rfl rfl rfl rfl (hF.getEx (s := 53) rfl) hb6 rfl sizeT46 (tabCells seed _ _ _) (hF.keep [6]) rfl ?_
    intro w15 hF hb6 hkx
    replace hB := below_own hB hkx (by intro y hy; simp only [List.mem_singleton] at hy; omega)
    replace hsl := hsl.keeps hkx (by simpa using Ne.symm hn6)
    refine' tlOp hF rfl rfl rfl ?_ ?_
    rotate_left
    · exact cAssign rfl rfl
    intro a w16 hF hb
    have hBs := hB.size
    replace hB := hB.trans (hb.mono hB.size)
    try (refine wpList_nil ?_)
    repeat with_reducible first | refine nThen ?_ | refine wp_ret ?_
    refine retCell2 hF rfl rfl rfl (hb6.below hb) Tryd.underlying38 rfl sizeT46 ?_
    refine ⟨_, rfl, ⟨_, rfl, _, rfl, [g], ?_, fun y hy => ?_⟩, hB⟩
    · rw [tall_len, tzero_len]
      exact (hsl.below hb).seg
    · simp only [List.mem_singleton] at hy
      omega
  have hlt : k < X.length := by have := of_decide_eq_true hlt; omega
  have htk : X.take (k + 1) = X.take k ++ [X.getD k default] := take_snoc' X hlt
  have hnx : tall seed (tzero N) (X.take (k + 1)) 1 = tput seed (tall seed (tzero N) (X.take k) 1) (X.getD k default) 1 := by rw [htk, tall_snoc]
  have hMl : (tall seed (tzero N) (X.take k) 1).length = N := by rw [tall_len, tzero_len]
  obtain ⟨M, hM⟩ : ∃ M, M = tall seed (tzero N) (X.take k) 1 := ⟨_, rfl⟩
  rw [← hM] at hsl hnx hMl
  obtain ⟨x, hx⟩ : ∃ x, x = X.getD k default := ⟨_, rfl⟩
  rw [← hx] at hnx
  have hsl25 := hs25.sl
  have hlt25 := hs25.lt
  have hw13 := hB.size
  repeat with_reducible first | refine wp_seq ?_ | refine nThen ?_ | refine wp_skip ?_ | refine wp_block ?_
  refine' region_ty 3 mixed (by kernel_rfl) hF ?_ ?_
  rotate_left
  · simp only [List.take_succ_cons, List.take_zero]
    repeat (first
        | exact Line.nil
        | (refine' Line.cons rfl (.new rfl rfl (run_alloc_i infoS) rfl) ?_; rotate_left)
        | ((refine' Line.cons rfl (.run rfl rfl ?_) ?_)
           any_goals (first | exact cIndexSum (k := k) rfl (.l rfl hsl25) rfl Tryd.underlying34 sizeS hlt | exact cLoadSum rfl (.t rfl) Tryd.underlying25 sizeS)
           rotate_left))
  intro a w14 hF hb hN
  have hBs := hB.size
  replace hB := hB.trans (hb.mono hB.size)
  simp only [List.take_succ_cons, List.take_zero, List.drop_succ_cons, List.drop_zero] at hF hN ⊢
  dsimp only [ext, Option.getD] at hF
  replace hb6 := hb6.below hb
  replace hb8 := hb8.below hb
  replace hsl := hsl.below hb
  replace hs25 := hs25.below hb
  obtain ⟨z, ⟨g11, rfl, hg11, hb11⟩, hF⟩ := hF.open (s := 11) rfl
  have hg11 : w13.heap.size ≤ g11 := hg11
  have hn6 : g6 ≠ g11 := fun h => by subst h; exact absurd (hb6.ne hb11 (by decide)) (by simp)
  have hn8 : g8 ≠ g11 := fun h => by subst h; exact absurd (hb8.ne hb11 (by decide)) (by simp)
  have hng := segl_far hsl hb11 (by decide)
  refine tlStoreV (Δ := [(0, Ty.ex (.int .u64 (seed : Int))), (1, Ty.ex (.int .i64 (N : Int))), (6, Ty.ex (.pointer (some ⟨g6, 0, none⟩))), (8, Ty.ex (.pointer (some ⟨g8, 0, none⟩))), (11, Ty.ex (.pointer (some ⟨g11, 0, none⟩))), (25, Ty.ex v25), (26, Ty.ex (.int .i64 (X.length : Int))), (27, Ty.ex (.int .i64 (k : Int)))]) hF rfl rfl rfl rfl (hF.getEx (s := 30) rfl) hb11 (sumSz _) (by show _ = some (u8s _).size; rw [Sm.size]; exact sizeS) (u8s_one _) (hF.keep [0, 1, 6, 8, 11, 25, 26, 27]) rfl ?_
  intro w15 hF hb11' hkx
  refine wpList_nil ?_
  replace hB := below_own hB hkx (by intro y hy; simp only [List.mem_singleton] at hy; omega)
  replace hb6 := hb6.keeps hkx (by simpa using hn6)
  replace hb8 := hb8.keeps hkx (by simpa using hn8)
  replace hsl := hsl.keeps hkx (by simpa using Ne.symm hng)
  replace hs25 := hs25.keeps hkx (by intro y hy hm; simp only [List.mem_singleton] at hm; have := hlt25 y hy; omega)
  have h11 : (Ty.at_ 25 x.enc).p w15 (.pointer (some ⟨g11, 0, none⟩)) := by
    have h := blk_at hb11'
    rw [← hx] at h
    rwa [show (Value.agg (u8s x.l)).cells.toList = x.enc from u8s_list _] at h
  clear hb11 hb11' hkx
  have hPp := places_ty seed (N : Int) x hsd
  have hPd : ∀ j, j < (placesN seed (N : Int) x).length → (placesN seed (N : Int) x).getD j 0 < N := fun j hj => places_lt seed N x _ (getD_mem hj)
  have hput : tput seed M x 1 = (placesN seed (N : Int) x).foldl (fun L i => tputAt L i x 1) M := by unfold tput; rw [hMl]
  have hPl3 := placesN_len3 seed (N : Int) x
  generalize placesN seed (N : Int) x = PL at *
  repeat with_reducible first | refine wp_seq ?_ | refine nThen ?_
  refine' reg_all hF ?_ mixed (by kernel_rfl) ?_
  rotate_left
  · repeat (first | exact Line.nil | ((refine' Line.cons rfl (.run rfl rfl ?_) ?_); (any_goals (first | exact cMove rfl rfl | exact cLoadSum rfl (.l rfl h11) Tryd.underlying25 sizeS | exact cCall3 rfl rfl rfl rfl hPp | exact cLen rfl rfl (Ty.sl_isSl _ _ _) Tryd.underlying23)); rotate_left))
  intro a w16 hF hb hN
  have hBs := hB.size
  replace hB := hB.trans (hb.mono hB.size)
  dsimp only [ext, Option.getD] at hF
  repeat with_reducible first | refine nThen ?_ | refine wp_block ?_
  replace hb6 := hb6.below hb
  replace hb8 := hb8.below hb
  replace hsl := hsl.below hb
  replace hs25 := hs25.below hb
  replace h11 := (Ty.at_ 25 x.enc).below h11 hb
  obtain ⟨v34, hv34, hF⟩ := hF.open (s := 34) rfl
  refine wp_mono (Q := fun e a wr => e = .exit 2 ∧ Fr 54 [(0, Ty.ex (.int .u64 (seed : Int))), (1, Ty.ex (.int .i64 (N : Int))), (6, Ty.ex (.pointer (some ⟨g6, 0, none⟩))), (8, Ty.ex (.pointer (some ⟨g8, 0, none⟩))), (25, Ty.ex v25), (26, Ty.ex (.int .i64 (X.length : Int))), (27, Ty.ex (.int .i64 (k : Int)))] a wr ∧ Below w.heap.size w wr ∧ Blk wr g6 38 zeroT ∧ Blk wr g8 38 #[.int .u64 (seed : Int), .slice (some ⟨g, off, none⟩) N cap] ∧ SegL wr 27 65 g off N cap (flatC (tput seed M x 1)) ∧ Seg wr 25 32 v25 X.length (flat X) S25) ?_ ?_
  · refine loop_ty (fun m a wr => ∃ j : Nat, j + m = PL.length ∧ Fr 54 [(0, Ty.ex (.int .u64 (seed : Int))), (1, Ty.ex (.int .i64 (N : Int))), (6, Ty.ex (.pointer (some ⟨g6, 0, none⟩))), (8, Ty.ex (.pointer (some ⟨g8, 0, none⟩))), (11, Ty.ex (.pointer (some ⟨g11, 0, none⟩))), (25, Ty.ex v25), (26, Ty.ex (.int .i64 (X.length : Int))), (27, Ty.ex (.int .i64 (k : Int))), (34, Ty.ex v34), (35, Ty.ex (.int .i64 (PL.length : Int))), (36, Ty.ex (.int .i64 (j : Int)))] a wr ∧ Below w.heap.size w wr ∧ Blk wr g6 38 zeroT ∧ Blk wr g8 38 #[.int .u64 (seed : Int), .slice (some ⟨g, off, none⟩) N cap] ∧ SegL wr 27 65 g off N cap (flatC ((PL.take j).foldl (fun L i => tputAt L i x 1) M)) ∧ Seg wr 25 32 v25 X.length (flat X) S25 ∧ (Ty.at_ 25 x.enc).p wr (.pointer (some ⟨g11, 0, none⟩)) ∧ (Ty.sl 3 PL.length (PL.map ivn)).p wr v34) PL.length ?_ ?_
    · exact ⟨0, by omega, hF.keep [0, 1, 6, 8, 11, 25, 26, 27, 34, 35, 36], hB, hb6, hb8, hsl, hs25, h11, hv34⟩
    clear hF hB hb6 hb8 hsl hs25 h11 hv34 hsl25
    rintro m a wr ⟨j, hj, hF, hB, hb6, hb8, hsl, hs25, h11, hv34⟩
    repeat with_reducible refine wp_seq ?_
    refine' reg_all hF ?_ mixed (by kernel_rfl) ?_
    rotate_left
    · repeat (first | exact Line.nil | ((refine' Line.cons rfl (.run rfl rfl ?_) ?_); (any_goals exact cLss rfl rfl rfl); rotate_left))
    intro a w17 hF hb hN
    have hBs := hB.size
    replace hB := hB.trans (hb.mono hB.size)
    dsimp only [ext, Option.getD] at hF
    repeat with_reducible first | refine wp_seq ?_ | refine nThen ?_
    replace hb6 := hb6.below hb
    replace hb8 := hb8.below hb
    replace hsl := hsl.below hb
    replace hs25 := hs25.below hb
    replace h11 := (Ty.at_ 25 x.enc).below h11 hb
    replace hv34 := (Ty.sl 3 PL.length (PL.map ivn)).below hv34 hb
    refine cond_ty hF rfl (fun hlt2 => ?_) (fun hge2 => ?_)
    rotate_left
    · have hge2 : ¬ j < PL.length := by have := of_decide_eq_false hge2; omega
      obtain rfl : j = PL.length := by omega
      rw [List.take_length, ← hput] at hsl
      repeat with_reducible first | refine wp_exit ?_ | refine xThen ?_
      exact ⟨rfl, hF.keep [0, 1, 6, 8, 25, 26, 27], hB, hb6, hb8, hsl, hs25⟩
    have hlt2 : j < PL.length := by have := of_decide_eq_true hlt2; omega
    have hi := hPd j hlt2
    have hfs := fold_snoc PL hlt2 M x 1
    have hd1 := ivn_drop hlt2
    have hFl : ((PL.take j).foldl (fun L i => tputAt L i x 1) M).length = N := by rw [foldAt_len, hMl]
    generalize (PL.take j).foldl (fun L i => tputAt L i x 1) M = R at *
    generalize PL.getD j 0 = i at *
    have hcell := cell_at hsl (i := i) (by omega)
    have h8 : (Ty.at_ 38 [.int .u64 (seed : Int), .slice (some ⟨g, off, none⟩) N cap]).p w17 (.pointer (some ⟨g8, 0, none⟩)) := blk_at hb8
    repeat with_reducible first | refine wp_seq ?_ | refine nThen ?_ | refine wp_skip ?_ | refine wp_block ?_
    refine' reg_all hF ?_ mixed (by kernel_rfl) ?_
    rotate_left
    · repeat (first | exact Line.nil | ((refine' Line.cons rfl (.run rfl rfl ?_) ?_); (any_goals (first | exact cAssign rfl rfl | exact cIndexS (k := j) (sz := 1) rfl (.l rfl hv34) rfl Tryd.underlying23 sizeI hlt2 (by rw [List.length_map]; omega) | exact cLoad1 (u := ivn i) rfl (Has.c (.t rfl) (fun W v h => by rw [Nat.mul_one, hd1] at h; exact h)) (pts_at _ _) Tryd.underlying3 rfl)); rotate_left))
    intro a w18 hF hb hN
    have hBs := hB.size
    replace hB := hB.trans (hb.mono hB.size)
    dsimp only [ext, Option.getD] at hF
    repeat with_reducible refine nThen ?_
    replace hb6 := hb6.below hb
    replace hb8 := hb8.below hb
    replace hsl := hsl.below hb
    replace hs25 := hs25.below hb
    replace h11 := (Ty.at_ 25 x.enc).below h11 hb
    replace hv34 := (Ty.sl 3 PL.length (PL.map ivn)).below hv34 hb
    replace hcell := (Ty.at_ 27 _).below hcell hb
    replace h8 := (Ty.at_ 38 _).below h8 hb
    refine' region_ty 11 mixed (by kernel_rfl) hF ?_ ?_
    rotate_left
    · simp only [List.take_succ_cons, List.take_zero]
      repeat (first | exact Line.nil | ((refine' Line.cons rfl (.run rfl rfl ?_) ?_); (any_goals (first | exact cMove rfl rfl | exact cFldL46 rfl (.l rfl h8) | exact cRowOf46 rfl (.t rfl) | exact cIndexEx (k := i) (sz := 65) rfl rfl rfl Tryd.underlying36 info34 hi | exact cLoadCl34 rfl (.l rfl hcell) | exact cLoadSum rfl (.l rfl h11) Tryd.underlying25 sizeS | exact cCall2 rfl rfl rfl (put_ty _ _))); rotate_left))
    intro a w19 hF hb hN
    have hBs := hB.size
    replace hB := hB.trans (hb.mono hB.size)
    simp only [List.take_succ_cons, List.take_zero, List.drop_succ_cons, List.drop_zero] at hF hN ⊢
    dsimp only [ext, Option.getD] at hF
    replace hb6 := hb6.below hb
    replace hb8 := hb8.below hb
    replace hsl := hsl.below hb
    replace hs25 := hs25.below hb
    replace h11 := (Ty.at_ 25 x.enc).below h11 hb
    replace hv34 := (Ty.sl 3 PL.length (PL.map ivn)).below hv34 hb
    have hn6 := segl_far hsl hb6 (by decide)
    have hn8 := segl_far hsl hb8 (by decide)
    obtain ⟨csg, frg, hbg⟩ := hsl.block
    have hbl : ∃ cs, Blk w19 g 27 cs := by
      obtain ⟨_, _, _, cs, h, _⟩ := hsl
      exact ⟨cs, h⟩
    obtain ⟨csb, hbl⟩ := hbl
    refine tlStoreAt (Δ := [(0, Ty.ex (.int .u64 (seed : Int))), (1, Ty.ex (.int .i64 (N : Int))), (6, Ty.ex (.pointer (some ⟨g6, 0, none⟩))), (8, Ty.ex (.pointer (some ⟨g8, 0, none⟩))), (11, Ty.ex (.pointer (some ⟨g11, 0, none⟩))), (25, Ty.ex v25), (26, Ty.ex (.int .i64 (X.length : Int))), (27, Ty.ex (.int .i64 (k : Int))), (34, Ty.ex v34), (35, Ty.ex (.int .i64 (PL.length : Int))), (36, Ty.ex (.int .i64 (j : Int)))]) (k := i * 65) hF rfl rfl rfl rfl rfl hsl (by rw [Cl.size]; omega) (by rw [Cl.size]; exact info34) (Cl.one _) (hF.keep [0, 1, 6, 8, 11, 25, 26, 27, 34, 35, 36]) rfl ?_
    intro w20 hF hsl hk20
    refine wpList_nil ?_
    replace hB := below_own hB hk20 (by intro y hy; simp only [List.mem_singleton] at hy; omega)
    replace hb6 := hb6.keeps hk20 (by simpa using hn6)
    replace hb8 := hb8.keeps hk20 (by simpa using hn8)
    replace hs25 := hs25.keeps hk20 (seg_far hs25 hbl (by decide))
    replace h11 := (Ty.at_ 25 x.enc).far h11 hk20 hbl rfl
    replace hv34 := (Ty.sl 3 PL.length (PL.map ivn)).far hv34 hk20 hbl rfl
    rw [show ((R.getD i default).put x 1).a.toList = ((R.getD i default).put x 1).enc from rfl, over_flatC _ _ (by omega)] at hsl
    rw [show R.set i ((R.getD i default).put x 1) = tputAt R i x 1 from rfl, ← hfs] at hsl
    repeat with_reducible first | refine nThen ?_ | refine nBlk ?_
    refine' reg_all hF ?_ mixed (by kernel_rfl) ?_
    rotate_left
    · repeat (first | exact Line.nil | ((refine' Line.cons rfl (.run rfl rfl ?_) ?_); (any_goals (first | exact cMove rfl rfl | exact cAdd (r := ((j + 1 : Nat) : Int)) rfl rfl rfl (by omega))); rotate_left))
    intro a w21 hF hb hN
    have hBs := hB.size
    replace hB := hB.trans (hb.mono hB.size)
    dsimp only [ext, Option.getD] at hF
    repeat with_reducible refine nThen ?_
    exact ⟨m - 1, by omega, j + 1, by omega, hF.keep [0, 1, 6, 8, 11, 25, 26, 27, 34, 35, 36], hB, hb6.below hb, hb8.below hb, hsl.below hb, hs25.below hb, (Ty.at_ 25 x.enc).below h11 hb, (Ty.sl 3 PL.length (PL.map ivn)).below hv34 hb⟩
  clear hF hB hb6 hb8 hsl hs25 h11 hv34 hsl25
  rintro e a wr ⟨rfl, hF, hB, hb6, hb8, hsl, hs25⟩
  repeat with_reducible first | refine nThen ?_ | refine nBlk ?_ | refine xHere ?_
  refine' reg_all hF ?_ mixed (by kernel_rfl) ?_
  rotate_left
  · repeat (first | exact Line.nil | ((refine' Line.cons rfl (.run rfl rfl ?_) ?_); (any_goals (first | exact cMove rfl rfl | exact cAdd (r := ((k + 1 : Nat) : Int)) rfl rfl rfl (by omega))); rotate_left))
  intro a w17 hF hb hN
  have hBs := hB.size
  replace hB := hB.trans (hb.mono hB.size)
  dsimp only [ext, Option.getD] at hF
  repeat with_reducible refine nThen ?_
  refine ⟨m - 1, by omega, k + 1, by omega, hF.keep [0, 1, 6, 8, 25, 26, 27], hB, hb6.below hb, hb8.below hb, ?_, hs25.below hb⟩
  rw [hnx]
  exact hsl.below hb
end Go.Proofs.YtgmeagkolahkoaaDoor

/- The laws' helpers of layers 15 to 18 by types: cellOf, tableOf, sameT, few. -/
namespace Go.Proofs.YtgmeagkolahkoaaDoor
open Go.RowKit

/-- A value of one cell is stored into a field of a variable of the call's own. -/
theorem tlStoreF {P : Program} {ops : Array Oper} {Q : Exit → Act → World → Prop} {rest : List Oper} {o : Oper} {a : Act} {w : World} {N : Nat} {Γ : Ctx} {ty t : TypeId} {p : Nat} {y : Operand} {g k : Nat} {cs : Array Value} {v : Value} {Δ : Ctx} (hF : Fr N Γ a w) (hg : o.guard = none) (hd : o.dst = none) (ho : o.op = .store ty (.tmp p) y) (hp : look Γ p = some (Ty.ex (.pointer (some ⟨g, k, none⟩)))) (hy : a.eval y = v)
    (hB : Blk w g t cs) (hk : k + v.cells.size ≤ cs.size) (hi : (P.info? ty).map (·.size) = some v.cells.size) (h1 : v.cells.all (·.oneCell') = true) (hΔ : Fr N Δ a w) (hfree : Δ.free t = true)
    (hq : ∀ w', Fr N Δ a w' → Blk w' g t (splice cs k v.cells.toList) → Keeps [g] w w' → wpList P ops Q rest a w') : wpList P ops Q (o :: rest) a w := by
  refine wpList_plain hg fun K hK => ?_
  unfold Oper.wp execOp
  simp only [ho, hF.getEx hp, hy, Instr.storeAt, Instr.sureAddr, Sem.run_bind, Sem.run_pure, Result.andThen_ok, storeVar_cells ty _ v, run_storeVar_mid w g k ty v.cells (hB.there hk) hi h1]
  have h2 := hB.setCells v.cells.toList k
  have h3 : Keeps [g] w (w.setCells g k v.cells.toList) := Keeps.setCells (.inl (by simp)) _ _ (Keeps.refl _ _)
  refine hK _ _ ?_
  rw [hd]
  refine hq _ (hΔ.free h3 (fun b hb _ => ?_) hfree) h2 h3
  simp only [List.mem_singleton] at hb
  subst hb
  exact ⟨cs, (0, 0), hB⟩
theorem sl_cells {v : Value} (h : ∃ A l c, v = .slice A l c) : v.cells = #[v] := by
  obtain ⟨A, l, c, rfl⟩ := h
  rfl
theorem sl_one1 {v : Value} (h : ∃ A l c, v = .slice A l c) : v.cells.all (·.oneCell') = true := by
  obtain ⟨A, l, c, rfl⟩ := h
  simp [Value.cells, Value.oneCell']
theorem splice2 (a b v : Value) (h : v.cells = #[v]) : splice #[a, b] 1 v.cells.toList = #[a, v] := by rw [h]; rfl
theorem seg_isA {w : World} {e : TypeId} {sz n : Nat} {v : Value} {xs : List Value} {S : List Nat} (h : Seg w e sz v n xs S) : ∃ A l c, v = .slice A l c := by
  obtain ⟨A, c, h1, _⟩ := h.form
  exact ⟨A, n, c, h1⟩
theorem cBuildC1 {P : Program} {w0 : World} {Γ : Ctx} {o : Oper} {t : TypeId} {x : Operand} {v z : Value} (ho : o.op = .build t #[(0, x)]) (hx : OpT Γ x (Ty.ex v)) (hr : ∀ w : World, (Instr.build t #[(0, v)]).run P w = .ok z w) : OpOk P w0 Γ o (Ty.ex z) :=
  cBuildP (vs := #[(0, v)]) ho (fun a w hs => by
    obtain ⟨v', h1, h2⟩ := hs x _ (by simp [ho, Op.operands]) hx
    have h2 : v' = v := h2
    simp [h1, h2]) hr
set_option maxRecDepth 100000 in
theorem cellOf17_ty (c : Cl) : Fn1 Tryd.prog 61 (Ty.ex (.agg c.a)) (Ty.ex (.agg c.a)) := by
  refine ⟨fun args w => by kernel_rfl, fun w v hv => ?_⟩
  refine enter_ty 10 [Ty.ex (.agg c.a)] Tryd.func61 rfl (by kernel_rfl) ⟨hv, trivial⟩ fun a hF => ?_
  have hB := Below.refl w.heap.size w
  repeat with_reducible first | refine wp_seq ?_ | refine nThen ?_ | refine wp_ret ?_
  refine' reg_all hF ?_ mixed (by kernel_rfl) ?_
  rotate_left
  · repeat (first
        | exact Line.nil
        | (refine' Line.cons rfl (.new rfl rfl (run_alloc_i infoC49) rfl) ?_; rotate_left)
        | ((refine' Line.cons rfl (.run rfl rfl ?_) ?_)
           any_goals (first | exact cBoxCl rfl rfl)
           rotate_left))
  intro a w1 hF hb hN
  have hBs := hB.size
  replace hB := hB.trans (hb.mono hB.size)
  dsimp only [ext, Option.getD] at hF
  repeat with_reducible first | refine wp_seq ?_ | refine nThen ?_ | refine wp_ret ?_
  obtain ⟨z, ⟨gx, rfl, hgx, hbx⟩, hF⟩ := hF.open (s := 2) rfl
  repeat with_reducible first | refine wp_seq ?_ | refine nThen ?_ | refine wp_ret ?_
  refine' region_ty 7 mixed (by kernel_rfl) hF ?_ ?_
  rotate_left
  · simp only [List.take_succ_cons, List.take_zero]
    repeat (first
        | exact Line.nil
        | ((refine' Line.cons rfl (.run rfl rfl ?_) ?_)
           any_goals (first | exact cFldN34 rfl (.t rfl) | exact cFldK34 rfl (.t rfl) | exact cFldC34 rfl (.t rfl) | exact cLoadN rfl (.t rfl) | exact cLoadSum rfl (.t rfl) Tryd.underlying25 sizeS | exact cBuild3 rfl rfl rfl rfl (fun w => buildC49 _ _ _ w))
           rotate_left))
  intro a w2 hF hb hN
  have hBs := hB.size
  replace hB := hB.trans (hb.mono hB.size)
  simp only [List.take_succ_cons, List.take_zero, List.drop_succ_cons, List.drop_zero] at hF hN ⊢
  dsimp only [ext, Option.getD] at hF
  replace hbx := hbx.below hb
  refine tlStoreV (Δ := [(2, Ty.ex (.pointer (some ⟨_, 0, none⟩)))]) hF rfl rfl rfl rfl (hF.getEx (s := 9) rfl) hbx (clSz _ _) ((by show _ = some (Cl.a _).size; rw [Cl.size]; exact info49)) (Cl.one _) (hF.keep [2]) rfl ?_
  intro w3 hF hbx hkx
  refine wpList_nil ?_
  replace hB := below_own hB hkx (by intro y hy; simp only [List.mem_singleton] at hy; omega)
  repeat with_reducible first | refine wp_seq ?_ | refine nThen ?_ | refine wp_ret ?_
  refine retCell hF rfl rfl hbx (Tryd.underlying114) rfl ((by show _ = some (Cl.a _).size; rw [Cl.size]; exact info49)) ?_
  exact ⟨_, rfl, rfl, hB⟩
set_option maxRecDepth 100000 in
set_option maxHeartbeats 2000000 in
theorem tableOf17_ty (seed : Nat) (L : List Cl) (hL : L.length ≤ 1000000) : FnR1 Tryd.prog 29 (Ty.tab 27 seed L) (fun w => Ty.tabO w 114 seed L) := by
  refine ⟨fun args w => by kernel_rfl, fun w v ⟨s, hv, hs⟩ => ?_⟩
  subst hv
  let TL := Ty.cls 27 L
  refine enter_ty 27 [Ty.ex (.agg #[.int .u64 (seed : Int), s])] Tryd.func29 rfl (by kernel_rfl) ⟨rfl, trivial⟩ fun a hF => ?_
  have hB := Below.refl w.heap.size w
  repeat with_reducible first | refine wp_seq ?_ | refine nThen ?_ | refine nBlk ?_ | refine wp_skip ?_ | refine wp_block ?_ | refine wp_exit ?_ | refine xThen ?_ | refine xHere ?_ | refine wp_ret ?_
  refine' reg_all hF ?_ mixed (by kernel_rfl) ?_
  rotate_left
  · repeat (first
        | exact Line.nil
        | (refine' Line.cons rfl (.new rfl rfl (run_alloc_i infoT83) rfl) ?_; rotate_left)
        | ((refine' Line.cons rfl (.run rfl rfl ?_) ?_)
           any_goals (first | exact cMove rfl rfl | exact cAssign rfl rfl | exact cBoxTab rfl rfl | exact cLss rfl rfl rfl)
           rotate_left))
  intro a w1 hF hb hN
  have hBs := hB.size
  replace hB := hB.trans (hb.mono hB.size)
  dsimp only [ext, Option.getD] at hF
  repeat with_reducible first | refine wp_seq ?_ | refine nThen ?_ | refine nBlk ?_ | refine wp_skip ?_ | refine wp_block ?_ | refine wp_exit ?_ | refine xThen ?_ | refine xHere ?_ | refine wp_ret ?_
  obtain ⟨z, ⟨g2, rfl, hg2, hb2⟩, hF⟩ := hF.open (s := 2) rfl
  have hg2 : w.heap.size ≤ g2 := hg2
  obtain ⟨p1, hp1, hF⟩ := hF.open (s := 1) rfl
  have hs1 := TL.below hs hB
  have hB0 := hB
  have hw1 := hB.size
  have hlt2 := hb2.lt
  replace hB := Below.refl w1.heap.size w1
  repeat with_reducible first | refine wp_seq ?_ | refine nThen ?_ | refine nBlk ?_ | refine wp_skip ?_ | refine wp_block ?_ | refine wp_exit ?_ | refine xThen ?_ | refine xHere ?_ | refine wp_ret ?_
  refine' region_ty 4 mixed (by kernel_rfl) hF ?_ ?_
  rotate_left
  · simp only [List.take_succ_cons, List.take_zero]
    repeat (first
        | exact Line.nil
        | (refine' Line.cons rfl (.new rfl rfl (run_alloc_i infoT83) rfl) ?_; rotate_left)
        | ((refine' Line.cons rfl (.run rfl rfl ?_) ?_)
           any_goals (first | exact cMove rfl rfl | exact cAssign rfl rfl | exact cFldS46 rfl (.l rfl hp1) | exact cLoadU64 rfl (.t rfl) | exact cBuildC1 rfl rfl (fun w => buildTs83 _ w) | exact cLss rfl rfl rfl)
           rotate_left))
  intro a w2 hF hb hN
  have hBs := hB.size
  replace hB := hB.trans (hb.mono hB.size)
  simp only [List.take_succ_cons, List.take_zero, List.drop_succ_cons, List.drop_zero] at hF hN ⊢
  dsimp only [ext, Option.getD] at hF
  obtain ⟨z, ⟨g3, rfl, hg3, hb3⟩, hF⟩ := hF.open (s := 3) rfl
  have hg3 : w1.heap.size ≤ g3 := hg3
  refine tlStoreV (Δ := [(1, Ty.ex p1), (2, Ty.ex (.pointer (some ⟨g2, 0, none⟩))), (3, Ty.ex (.pointer (some ⟨g3, 0, none⟩)))]) hF rfl rfl rfl rfl (hF.getEx (s := 7) rfl) hb3 rfl sizeT83 (tabCells seed _ _ _) (hF.keep [1, 2, 3]) rfl ?_
  intro w3 hF hb3 hkx
  refine wpList_nil ?_
  replace hB := below_own hB hkx (by intro y hy; simp only [List.mem_singleton] at hy; omega)
  replace hb3 : Blk w3 g3 72 #[.int .u64 (seed : Int), .slice none 0 0] := hb3
  clear hkx
  repeat with_reducible first | refine wp_seq ?_ | refine nThen ?_ | refine nBlk ?_ | refine wp_skip ?_ | refine wp_block ?_ | refine wp_exit ?_ | refine xThen ?_ | refine xHere ?_ | refine wp_ret ?_
  refine' reg_all hF ?_ mixed (by kernel_rfl) ?_
  rotate_left
  · repeat (first
        | exact Line.nil
        | ((refine' Line.cons rfl (.run rfl rfl ?_) ?_)
           any_goals (first | exact cMove rfl rfl | exact cAssign rfl rfl | exact cLss rfl rfl rfl)
           rotate_left))
  intro a w4 hF hb hN
  have hBs := hB.size
  replace hB := hB.trans (hb.mono hB.size)
  dsimp only [ext, Option.getD] at hF
  repeat with_reducible first | refine wp_seq ?_ | refine nThen ?_ | refine nBlk ?_ | refine wp_skip ?_ | refine wp_block ?_ | refine wp_exit ?_ | refine xThen ?_ | refine xHere ?_ | refine wp_ret ?_
  replace hb3 := hb3.below hb
  refine loop_ty (fun m a wr => ∃ (i : Nat) (u : Value) (S : List Nat), i + m = L.length ∧ Fr 27 [(1, Ty.ex p1), (2, Ty.ex (.pointer (some ⟨g2, 0, none⟩))), (3, Ty.ex (.pointer (some ⟨g3, 0, none⟩))), (4, Ty.ex (.int .i64 (i : Int)))] a wr ∧ Below w1.heap.size w1 wr ∧ Blk wr g3 72 #[.int .u64 (seed : Int), u] ∧ Seg wr 114 65 u i (flatC (L.take i)) S ∧ ∀ y ∈ S, w1.heap.size ≤ y) L.length ?_ ?_
  · exact ⟨0, _, [], by omega, hF.keep [1, 2, 3, 4], hB, hb3, Seg.nil _ _ _, by simp⟩
  clear hF hB hb3
  rintro m a wr ⟨i, u, S, hi, hF, hB, hb3, hseg, hS⟩
  have hp := (Ty.at_ 38 [.int .u64 (seed : Int), s]).below hp1 hB
  have hsr := TL.below hs1 hB
  repeat with_reducible first | refine wp_seq ?_ | refine nThen ?_ | refine nBlk ?_ | refine wp_skip ?_ | refine wp_block ?_ | refine wp_exit ?_ | refine xThen ?_ | refine xHere ?_ | refine wp_ret ?_
  refine' reg_all hF ?_ mixed (by kernel_rfl) ?_
  rotate_left
  · repeat (first
        | exact Line.nil
        | ((refine' Line.cons rfl (.run rfl rfl ?_) ?_)
           any_goals (first | exact cMove rfl rfl | exact cAssign rfl rfl | exact cFldL46 rfl (.l rfl hp) | exact cRowOf46 rfl (.t rfl) | exact cLenH rfl (.l rfl hsr) (Ty.sl_isSl _ _ _) Tryd.underlying36 | exact cLss rfl rfl rfl)
           rotate_left))
  intro a w5 hF hb hN
  have hBs := hB.size
  replace hB := hB.trans (hb.mono hB.size)
  dsimp only [ext, Option.getD] at hF
  repeat with_reducible first | refine wp_seq ?_ | refine nThen ?_ | refine nBlk ?_ | refine wp_skip ?_ | refine wp_block ?_ | refine wp_exit ?_ | refine xThen ?_ | refine xHere ?_ | refine wp_ret ?_
  replace hb3 := hb3.below hb
  replace hseg := hseg.below hb
  replace hp := (Ty.at_ 38 [.int .u64 (seed : Int), s]).below hp1 hB
  replace hsr := TL.below hs1 hB
  have h3 : (Ty.at_ 72 [.int .u64 (seed : Int), u]).p w5 (.pointer (some ⟨g3, 0, none⟩)) := blk_at hb3
  refine cond_ty hF rfl (fun hlt => ?_) (fun hge => ?_)
  · have hlt : i < L.length := by have := of_decide_eq_true hlt; omega
    have hsn := flatC_snoc L hlt
    have hC := cellOf17_ty (L.getD i default)
    repeat with_reducible first | refine wp_seq ?_ | refine nThen ?_ | refine nBlk ?_ | refine wp_skip ?_ | refine wp_block ?_ | refine wp_exit ?_ | refine xThen ?_ | refine xHere ?_ | refine wp_ret ?_
    refine' region_ty 9 mixed (by kernel_rfl) hF ?_ ?_
    rotate_left
    · simp only [List.take_succ_cons, List.take_zero]
      repeat (first
          | exact Line.nil
          | ((refine' Line.cons rfl (.run rfl rfl ?_) ?_)
             any_goals (first | exact cMove rfl rfl | exact cAssign rfl rfl | exact cFldL46 rfl (.l rfl hp) | exact cRowOf46 rfl (.t rfl) | exact cFldL83 rfl (.l rfl h3) | exact cRowOf83 rfl (.t rfl) | exact cIndexCl (k := i) rfl (.l rfl hsr) rfl Tryd.underlying36 info34 hlt | exact cLoadCl34 rfl (.t rfl) | exact cCall1 rfl rfl hC | exact cBuildCl1 rfl rfl Tryd.underlying70 infoC49 | exact cLss rfl rfl rfl)
             rotate_left))
    intro a w6 hF hb hN
    have hBs := hB.size
    replace hB := hB.trans (hb.mono hB.size)
    simp only [List.take_succ_cons, List.take_zero, List.drop_succ_cons, List.drop_zero] at hF hN ⊢
    dsimp only [ext, Option.getD] at hF
    replace hb3 := hb3.below hb
    replace hseg := hseg.below hb
    have hf3 := seg_far hseg hb3 (by decide)
    refine tlAppend (Δ := [(1, Ty.ex p1), (2, Ty.ex (.pointer (some ⟨g2, 0, none⟩))), (3, Ty.ex (.pointer (some ⟨g3, 0, none⟩))), (4, Ty.ex (.int .i64 (i : Int)))]) (n := i) (m := 1) (news := flatC [L.getD i default]) hF rfl rfl rfl rfl Tryd.underlying70 infoC49 zero65_cells rfl hseg (.t rfl) sl_news (flatC_len _) flatC_one' (by simp [maxLen]; omega) (by omega) (hF.keep [1, 2, 3, 4]) rfl ?_
    intro a w7 u' S' hF hseg' hk7 hS'
    replace hb3 := hb3.keeps hk7 (fun hm => hf3 g3 hm (by simp))
    have hbS : ∀ y ∈ S', w1.heap.size ≤ y := own_next hB hS hS'
    replace hB := below_own hB hk7 hS
    rw [flatC_one, hsn] at hseg'
    refine' tlOp hF rfl rfl rfl ?_ ?_
    rotate_left
    · first | exact cFieldExE rfl rfl Tryd.underlying72 rfl size_row83 | exact cMove rfl rfl | exact cAssign rfl rfl | exact cLss rfl rfl rfl
    intro a w8 hF hb
    have hBs := hB.size
    replace hB := hB.trans (hb.mono hB.size)
    try (refine wpList_nil ?_)
    repeat with_reducible first | refine wp_seq ?_ | refine nThen ?_ | refine nBlk ?_ | refine wp_skip ?_ | refine wp_block ?_ | refine wp_exit ?_ | refine xThen ?_ | refine xHere ?_ | refine wp_ret ?_
    replace hb3 := hb3.below hb
    replace hseg' := hseg'.below hb
    have hcu := sl_cells (seg_isA hseg')
    refine tlStoreF (k := 0 + 1) (Δ := [(1, Ty.ex p1), (2, Ty.ex (.pointer (some ⟨g2, 0, none⟩))), (3, Ty.ex (.pointer (some ⟨g3, 0, none⟩))), (4, Ty.ex (.int .i64 (i : Int)))]) hF rfl rfl rfl rfl (hF.getEx (s := 24) rfl) hb3 (by rw [hcu]; exact Nat.le_refl 2) (by rw [hcu]; exact size_row83) (sl_one1 (seg_isA hseg')) (hF.keep [1, 2, 3, 4]) rfl ?_
    intro w9 hF hb3' hk9
    refine wpList_nil ?_
    replace hseg' := hseg'.keeps hk9 (seg_far hseg' hb3 (by decide))
    replace hB := below_own hB hk9 (by intro y hy; simp only [List.mem_singleton] at hy; omega)
    replace hb3 : Blk w9 g3 72 #[.int .u64 (seed : Int), u'] := by
      rw [Nat.zero_add, splice2 _ _ _ hcu] at hb3'
      exact hb3'
    repeat with_reducible first | refine wp_seq ?_ | refine nThen ?_ | refine nBlk ?_ | refine wp_skip ?_ | refine wp_block ?_ | refine wp_exit ?_ | refine xThen ?_ | refine xHere ?_ | refine wp_ret ?_
    refine' reg_all hF ?_ mixed (by kernel_rfl) ?_
    rotate_left
    · repeat (first
          | exact Line.nil
          | ((refine' Line.cons rfl (.run rfl rfl ?_) ?_)
             any_goals (first | exact cMove rfl rfl | exact cAssign rfl rfl | exact cAdd (r := ((i + 1 : Nat) : Int)) rfl rfl rfl (by omega) | exact cLss rfl rfl rfl)
             rotate_left))
    intro a w10 hF hb hN
    have hBs := hB.size
    replace hB := hB.trans (hb.mono hB.size)
    dsimp only [ext, Option.getD] at hF
    repeat with_reducible first | refine wp_seq ?_ | refine nThen ?_ | refine nBlk ?_ | refine wp_skip ?_ | refine wp_block ?_ | refine wp_exit ?_ | refine xThen ?_ | refine xHere ?_ | refine wp_ret ?_
    exact ⟨m - 1, by omega, i + 1, u', S', by omega, hF.keep [1, 2, 3, 4], hB, hb3.below hb, hseg'.below hb, hbS⟩
  have hge : ¬ i < L.length := by have := of_decide_eq_false hge; omega
  obtain rfl : i = L.length := by omega
  rw [List.take_length] at hseg
  replace hb2 : Blk w5 g2 72 #[.int .u64 0, .slice none 0 0] := hb2.below hB
  replace hB := hB0.trans (hB.mono hw1)
  repeat with_reducible first | refine wp_seq ?_ | refine nThen ?_ | refine nBlk ?_ | refine wp_skip ?_ | refine wp_block ?_ | refine wp_exit ?_ | refine xThen ?_ | refine xHere ?_ | refine wp_ret ?_
  refine wp_region_lit ?_
  refine' tlOp hF rfl rfl rfl ?_ ?_
  rotate_left
  · first | exact cLoadT83 rfl (.l rfl h3) | exact cMove rfl rfl | exact cAssign rfl rfl | exact cLss rfl rfl rfl
  intro a w6 hF hb
  have hBs := hB.size
  replace hB := hB.trans (hb.mono hB.size)
  try (refine wpList_nil ?_)
  repeat with_reducible first | refine wp_seq ?_ | refine nThen ?_ | refine nBlk ?_ | refine wp_skip ?_ | refine wp_block ?_ | refine wp_exit ?_ | refine xThen ?_ | refine xHere ?_ | refine wp_ret ?_
  replace hb2 := hb2.below hb
  replace hseg := hseg.below hb
  refine tlStoreV (Δ := [(2, Ty.ex (.pointer (some ⟨g2, 0, none⟩)))]) hF rfl rfl rfl rfl (hF.getEx (s := 26) rfl) hb2 rfl sizeT83 (sl_one hseg.sl _) (hF.keep [2]) rfl ?_
  intro w7 hF hb2' hkx
  refine wpList_nil ?_
  replace hB := below_own hB hkx (by intro y hy; simp only [List.mem_singleton] at hy; omega)
  replace hseg := hseg.keeps hkx (seg_far hseg hb2 (by decide))
  repeat with_reducible first | refine wp_seq ?_ | refine nThen ?_ | refine nBlk ?_ | refine wp_skip ?_ | refine wp_block ?_ | refine wp_exit ?_ | refine xThen ?_ | refine xHere ?_ | refine wp_ret ?_
  refine retCell hF rfl rfl hb2' Tryd.underlying72 rfl sizeT83 ?_
  exact ⟨_, rfl, ⟨u, rfl, S, hseg, fun y hy => Nat.le_trans hw1 (hS y hy)⟩, hB⟩
end Go.Proofs.YtgmeagkolahkoaaDoor

/- Layer 14 by types: awake. -/
namespace Go.Proofs.YtgmeagkolahkoaaDoor
open Go.RowKit

section
variable {P : Program} {ops : Array Oper} {Q : Exit → Act → World → Prop} {rest : List Oper} {o o2 : Oper} {a : Act} {w : World} {N : Nat} {Γ : Ctx}
/-- A line whose guard is met. -/
theorem tlOpG {j s d : Nat} {V : Ty} (hF : Fr N Γ a w) (hg : o.guard = some (j, true)) (hj : slotOf ops j = some s) (hs : look Γ s = some (Ty.ex (.bool true))) (hd : o.dst = some d) (hN : decide (d < N) = true) (h : OpOk P w Γ o V) (hk : ∀ a' w', Fr N ((d, V) :: Γ) a' w' → Below w.heap.size w w' → wpList P ops Q rest a' w') : wpList P ops Q (o :: rest) a w := by
  obtain ⟨v, h1, h2⟩ := hF.val s _ hs
  have h2 : v = .bool true := h2
  subst h2
  have hw : Region.wanted o (yielded ops a.tmps) = true := by simp [Region.wanted, hg, yielded_of hj h1]
  refine wpList_step fun K hK => ?_
  rw [if_pos hw]
  exact h a w K Q (Below.refl _ _) (fun s τ _ hs => hF.val s τ hs) fun v w' hv hb => by
    rw [hd]
    exact hK _ _ (hk _ _ (hF.put (of_decide_eq_true hN) hb hv) hb)
end
end Go.Proofs.YtgmeagkolahkoaaDoor

/- Layer 14 by types: the walk of PlaceParts. -/
namespace Go.Proofs.YtgmeagkolahkoaaDoor
open Go.RowKit

end Go.Proofs.YtgmeagkolahkoaaDoor

/- Layer 14 by types: the document's Places. -/
namespace Go.Proofs.YtgmeagkolahkoaaDoor
open Go.RowKit

theorem shrN (s k : Nat) : ((s : Nat) : Int).fdiv (2 ^ (((8 * k : Nat) : Int)).toNat) = ((s / 256 ^ k : Nat) : Int) := by
  have e : (2 : Nat) ^ (8 * k) = 256 ^ k := by rw [Nat.pow_mul]
  have e2 : ((2 : Int) ^ (8 * k)) = ((256 ^ k : Nat) : Int) := by rw [← e, Int.natCast_pow]; rfl
  rw [Int.toNat_natCast, Int.fdiv_eq_ediv_of_nonneg _ (Int.le_of_lt (Int.pow_pos (by decide))), e2, Int.natCast_ediv]
theorem cAllocV {P : Program} {w0 : World} {Γ : Ctx} {o : Oper} {t : TypeId} {z : Array Value} (ho : o.op = .alloc t) (hz : ∀ w : World, (Instr.alloc t true (.tuple #[])).run P w = .ok (.pointer (some ⟨w.heap.size, 0, none⟩)) (w.alloc (.cells z t))) : OpOk P w0 Γ o (Ty.var w0 t z) :=
  .new fun a w hb _ => ⟨_, _, ⟨w.heap.size, rfl, hb.size, Blk.new w _ _⟩, ((Keeps.refl [] w).alloc _).below, by unfold execOp; simp [ho, hz]⟩
theorem infoRS : (Tryd.prog.info? 112).map (fun i => (i.zero, i.size, i.bytes)) = some (some (.agg (u8s (List.replicate 32 0))), 32, 32) := by kernel_rfl
set_option maxRecDepth 100000 in
set_option maxHeartbeats 2000000 in
theorem rplaces_ty (seed : Nat) (n : Int) (x : Sm) (hsd : seed < 18446744073709551616) : Fn3 Tryd.prog 83 (Ty.ex (.int .u64 (seed : Int))) (Ty.ex (.int .i64 n)) (Ty.ex (.agg (u8s x.l))) (Ty.sl 3 (placesN seed n x).length ((placesN seed n x).map ivn)) := by
  refine ⟨fun args w => by kernel_rfl, fun w v u q hv hu hq => ?_⟩
  have hg := goodCells_ty n
  by_cases hgn : goodN n = true
  rotate_left
  · have hgn : goodN n = false := by simpa using hgn
    have e : placesN seed n x = [] := by unfold placesN; rw [hgn]; rfl
    rw [e]
    rw [hgn] at hg
    refine enter_ty 55 [Ty.ex (.int .u64 (seed : Int)), Ty.ex (.int .i64 n), Ty.ex (.agg (u8s x.l))] Tryd.func83 rfl (by kernel_rfl) ⟨hv, hu, hq, trivial⟩ fun a hF => ?_
    have hB := Below.refl w.heap.size w
    repeat with_reducible refine wp_seq ?_
    refine' reg_all hF ?_ mixed (by kernel_rfl) ?_
    rotate_left
    · repeat (first | exact Line.nil | ((refine' Line.cons rfl (.run rfl rfl ?_) ?_); (any_goals (first | exact cAssign rfl rfl | exact cBoxSum rfl rfl)); rotate_left))
    intro a w1 hF hb hN
    have hBs := hB.size
    replace hB := hB.trans (hb.mono hB.size)
    dsimp only [ext, Option.getD] at hF
    repeat with_reducible first | refine wp_seq ?_ | refine nThen ?_
    refine' reg_all hF ?_ mixed (by kernel_rfl) ?_
    rotate_left
    · repeat (first | exact Line.nil | ((refine' Line.cons rfl (.run rfl rfl ?_) ?_); (any_goals (first | exact cMove rfl rfl | exact cNot rfl rfl | exact cCall1 rfl rfl hg)); rotate_left))
    intro a w2 hF hb hN
    have hBs := hB.size
    replace hB := hB.trans (hb.mono hB.size)
    dsimp only [ext, Option.getD] at hF
    repeat with_reducible refine nThen ?_
    refine cond_t hF rfl ?_
    repeat with_reducible refine wp_seq ?_
    refine' reg_all hF ?_ mixed (by kernel_rfl) ?_
    rotate_left
    · repeat (first | exact Line.nil | ((refine' Line.cons rfl (.run rfl rfl ?_) ?_); (any_goals exact cAssign rfl rfl); rotate_left))
    intro a w3 hF hb hN
    have hBs := hB.size
    replace hB := hB.trans (hb.mono hB.size)
    dsimp only [ext, Option.getD] at hF
    repeat with_reducible first | refine nThen ?_ | refine wp_ret ?_ | refine rThen ?_
    refine ret1 hF rfl rfl fun z hz => ?_
    have hz : z = .slice none 0 0 := hz
    subst hz
    exact ⟨_, rfl, (Seg.nil w3 3 1).sl, hB⟩
  have e : placesN seed n x = plc (placeS seed x) (n.toNat / 3) 3 := by unfold placesN; rw [hgn]; rfl
  rw [e, plc_len]
  have hgd := of_decide_eq_true hgn
  rw [hgn] at hg
  obtain ⟨N, rfl⟩ : ∃ N : Nat, n = (N : Int) := ⟨n.toNat, by omega⟩
  rw [Int.toNat_natCast]
  have hO := r1of_ty ((80 :: leB seed 8) ++ x.l) (Ty.sl 5 41 ((80 :: leB seed 8).map bv ++ x.enc)) (by
    have h : ((80 :: leB seed 8) ++ x.l).length = 41 := by rw [List.length_append, x.len, List.length_cons, leB_len]
    rw [h, List.map_append]
    exact reads_sl _ _ _) (by
    intro y hy
    rcases List.mem_append.1 hy with hy | hy
    · rcases List.mem_cons.1 hy with rfl | hy
      · decide
      · exact leB_lt seed 8 y hy
    · exact x.lt y hy) (by rw [List.length_append, x.len, List.length_cons, leB_len]; decide)
  have hY : shaS ((80 :: leB seed 8) ++ x.l) = placeS seed x := rfl
  rw [hY] at hO
  generalize placeS seed x = Y at *
  clear hY e
  have heP : Enters Tryd.prog 102 := fun args w => by kernel_rfl
  refine enter_ty 55 [Ty.ex (.int .u64 (seed : Int)), Ty.ex (.int .i64 (N : Int)), Ty.ex (.agg (u8s x.l))] Tryd.func83 rfl (by kernel_rfl) ⟨hv, hu, hq, trivial⟩ fun a hF => ?_
  have hB := Below.refl w.heap.size w
  repeat with_reducible refine wp_seq ?_
  refine' reg_all hF ?_ mixed (by kernel_rfl) ?_
  rotate_left
  · repeat (first | exact Line.nil | ((refine' Line.cons rfl (.run rfl rfl ?_) ?_); (any_goals (first | exact cAssign rfl rfl | exact cBoxSum rfl rfl)); rotate_left))
  intro a w1 hF hb hN
  have hBs := hB.size
  replace hB := hB.trans (hb.mono hB.size)
  dsimp only [ext, Option.getD] at hF
  repeat with_reducible first | refine wp_seq ?_ | refine nThen ?_
  refine' reg_all hF ?_ mixed (by kernel_rfl) ?_
  rotate_left
  · repeat (first | exact Line.nil | ((refine' Line.cons rfl (.run rfl rfl ?_) ?_); (any_goals (first | exact cMove rfl rfl | exact cNot rfl rfl | exact cCall1 rfl rfl hg)); rotate_left))
  intro a w2 hF hb hN
  have hBs := hB.size
  replace hB := hB.trans (hb.mono hB.size)
  dsimp only [ext, Option.getD] at hF
  repeat with_reducible refine nThen ?_
  refine cond_f hF rfl ?_
  repeat with_reducible first | refine wp_seq ?_ | refine nThen ?_ | refine wp_skip ?_
  refine' reg_all hF ?_ mixed (by kernel_rfl) ?_
  rotate_left
  · repeat (first | exact Line.nil | ((refine' Line.cons rfl (.run rfl rfl ?_) ?_); (any_goals (first | exact cAssign rfl rfl | exact cBuildB1 rfl rfl)); rotate_left))
  intro a w3 hF hb hN
  have hBs := hB.size
  replace hB := hB.trans (hb.mono hB.size)
  dsimp only [ext, Option.getD] at hF
  repeat with_reducible first | refine wp_seq ?_ | refine nThen ?_
  obtain ⟨u7, ⟨S7, hs7, hS7⟩, hF⟩ := hF.open (s := 7) rfl
  refine' reg_all hF ?_ mixed (by kernel_rfl) ?_
  rotate_left
  · repeat (first | exact Line.nil | ((refine' Line.cons rfl (.run rfl rfl ?_) ?_); (any_goals exact cAssign rfl rfl); rotate_left))
  intro a w4 hF hb hN
  have hBs := hB.size
  replace hB := hB.trans (hb.mono hB.size)
  dsimp only [ext, Option.getD] at hF
  repeat with_reducible first | refine nThen ?_ | refine wp_block ?_
  refine loop_ty (fun m a wr => ∃ (k : Nat) (u : Value) (S : List Nat), k + m = 8 ∧ Fr 55 [(0, Ty.ex (.int .u64 (seed : Int))), (1, Ty.ex (.int .i64 (N : Int))), (5, Ty.at_ 112 x.enc), (7, Ty.ex u), (8, Ty.ex (.int .i64 (k : Int)))] a wr ∧ Below w.heap.size w wr ∧ Seg wr 5 1 u (1 + k) ((80 :: leB seed k).map bv) S ∧ ∀ y ∈ S, w.heap.size ≤ y) 8 ?_ ?_
  · exact ⟨0, u7, S7, by omega, hF.keep [0, 1, 5, 7, 8], hB, hs7.below hb, fun y hy => by have := hS7 y hy; omega⟩
  clear hF hB
  rintro m a wr ⟨k, u, S, hk, hF, hB, hseg, hS⟩
  repeat with_reducible refine wp_seq ?_
  refine' reg_all hF ?_ mixed (by kernel_rfl) ?_
  rotate_left
  · repeat (first | exact Line.nil | ((refine' Line.cons rfl (.run rfl rfl ?_) ?_); (any_goals (first | exact cMove rfl rfl | exact cLss rfl rfl rfl)); rotate_left))
  intro a w5 hF hb hN
  have hBs := hB.size
  replace hB := hB.trans (hb.mono hB.size)
  dsimp only [ext, Option.getD] at hF
  repeat with_reducible refine nThen ?_
  replace hseg := hseg.below hb
  refine cond_ty hF rfl (fun hlt => ?_) (fun hge => ?_)
  · have hlt : k < 8 := by have := of_decide_eq_true hlt; omega
    have hnx : (80 :: leB seed k).map bv ++ [bv (seed / 256 ^ k % 256)] = (80 :: leB seed (k + 1)).map bv := by rw [leB]; simp
    have hZl : seed / 256 ^ k < 18446744073709551616 := Nat.lt_of_le_of_lt (Nat.div_le_self _ _) hsd
    have hsh := shrN seed k
    generalize seed / 256 ^ k = Z at *
    repeat with_reducible first | refine wp_seq ?_ | refine nThen ?_ | refine wp_skip ?_ | refine wp_block ?_
    refine' region_ty 8 mixed (by kernel_rfl) hF ?_ ?_
    rotate_left
    · simp only [List.take_succ_cons, List.take_zero]
      repeat (first | exact Line.nil | ((refine' Line.cons rfl (.run rfl rfl ?_) ?_); (any_goals (first | exact cMove rfl rfl | exact cMul (r := ((8 * k : Nat) : Int)) rfl rfl rfl (by omega) | exact cConvR (r := ((8 * k : Nat) : Int)) rfl rfl Tryd.underlying3 Tryd.underlying63 (by rw [IntKind.wrap_u64]; omega) | exact cShr (r := ((Z : Nat) : Int)) rfl rfl rfl ⟨by omega, by simp [IntKind.bits]; omega⟩ hsh | exact cConvR (r := ((Z % 256 : Nat) : Int)) rfl rfl Tryd.underlying22 Tryd.underlying5 (by simp [IntKind.wrap, IntKind.bits, IntKind.signed]) | exact cBuildV (vs := [bv (Z % 256)]) rfl (parts1v rfl rfl) Tryd.underlying64 infoU8 rfl (by simp [Value.cells, bv]) (by decide) (by simp [maxLen]))); rotate_left))
    intro a w6 hF hb hN
    have hBs := hB.size
    replace hB := hB.trans (hb.mono hB.size)
    simp only [List.take_succ_cons, List.take_zero, List.drop_succ_cons, List.drop_zero] at hF hN ⊢
    dsimp only [ext, Option.getD] at hF
    replace hseg := hseg.below hb
    refine tlAppend (Δ := [(0, Ty.ex (.int .u64 (seed : Int))), (1, Ty.ex (.int .i64 (N : Int))), (5, Ty.at_ 112 x.enc), (8, Ty.ex (.int .i64 (k : Int)))]) (n := 1 + k) (m := 1) (news := [bv (Z % 256)]) hF rfl rfl rfl rfl Tryd.underlying64 infoU8 rfl rfl hseg (.t rfl) sl_news rfl (by simp [bv, Value.oneCell']) (by simp [maxLen]; omega) (by omega) (hF.keep [0, 1, 5, 8]) rfl ?_
    intro a w7 u' S' hF hseg' hk7 hS'
    have hbS : ∀ y ∈ S', w.heap.size ≤ y := own_next hB hS hS'
    replace hB := below_own hB hk7 hS
    rw [hnx] at hseg'
    refine' tlOp hF rfl rfl rfl ?_ ?_
    rotate_left
    · exact cAssign rfl rfl
    intro a w8 hF hb
    have hBs := hB.size
    replace hB := hB.trans (hb.mono hB.size)
    try (refine wpList_nil ?_)
    repeat with_reducible first | refine nThen ?_ | refine nBlk ?_
    replace hseg' := hseg'.below hb
    refine' reg_all hF ?_ mixed (by kernel_rfl) ?_
    rotate_left
    · repeat (first | exact Line.nil | ((refine' Line.cons rfl (.run rfl rfl ?_) ?_); (any_goals (first | exact cMove rfl rfl | exact cAssign rfl rfl | exact cAdd (r := ((k + 1 : Nat) : Int)) rfl rfl rfl (by omega))); rotate_left))
    intro a w10 hF hb hN
    have hBs := hB.size
    replace hB := hB.trans (hb.mono hB.size)
    dsimp only [ext, Option.getD] at hF
    repeat with_reducible refine nThen ?_
    exact ⟨m - 1, by omega, k + 1, u', S', by omega, hF.keep [0, 1, 5, 7, 8], hB, hseg'.below hb, hbS⟩
  have hge : ¬ k < 8 := by have := of_decide_eq_false hge; omega
  obtain rfl : k = 8 := by omega
  have hw5 : w.heap.size ≤ w5.heap.size := hB.size
  repeat with_reducible first | refine wp_seq ?_ | refine nThen ?_ | refine wp_exit ?_ | refine xThen ?_ | refine xHere ?_
  refine wp_region_lit ?_
  refine' tlOp hF rfl rfl rfl ?_ ?_
  rotate_left
  · exact cMove rfl rfl
  intro a w6 hF hb
  have hBs := hB.size
  replace hB := hB.trans (hb.mono hB.size)
  try (refine wpList_nil ?_)
  replace hseg := hseg.below hb
  refine' tlOp hF rfl rfl rfl ?_ ?_
  rotate_left
  · exact cLoadSum rfl (.t rfl) Tryd.underlying112 sizeR
  intro a w7 hF hb
  have hBs := hB.size
  replace hB := hB.trans (hb.mono hB.size)
  try (refine wpList_nil ?_)
  replace hseg := hseg.below hb
  refine tlCall rfl rfl rfl (args := #[u, .agg (u8s x.l)]) ?_ heP (R := fun u' w' => (∃ S', Seg w' 5 1 u' 41 ((80 :: leB seed 8).map bv ++ x.enc) S') ∧ Keeps S w7 w') ?_ ?_
  · simp only [List.map_toArray, List.map_cons, List.map_nil, hF.getEx (s := 30) rfl, hF.getEx (s := 31) rfl]
  · refine (putsum_any x u 9 _ S w7 hseg (by decide)).mono fun e w' ⟨u', h1, ⟨S', h2, _⟩, h3⟩ => ⟨u', h1, ⟨S', h2⟩, h3⟩
  rintro u' w8 ⟨⟨S', hs8⟩, hk8⟩
  have hF := ((hF.keep [1]).free hk8 hseg.blocks rfl).put (d := 32) (by decide) (Below.refl _ _) (V := Ty.ex u') rfl
  replace hB := below_own hB hk8 hS
  have hu8 : (Ty.sl 5 41 ((80 :: leB seed 8).map bv ++ x.enc)).p w8 u' := hs8.sl
  refine' tlOp hF rfl rfl rfl ?_ ?_
  rotate_left
  · exact cCallH1 rfl (.l rfl hu8) hO
  intro a w9 hF hb
  have hBs := hB.size
  replace hB := hB.trans (hb.mono hB.size)
  try (refine wpList_nil ?_)
  have hw9 : w.heap.size ≤ w9.heap.size := hB.size
  refine' tlOp hF rfl rfl rfl ?_ ?_
  rotate_left
  · exact cAllocV rfl (run_alloc_i infoRS)
  intro a w10 hF hb
  have hBs := hB.size
  replace hB := hB.trans (hb.mono hB.size)
  try (refine wpList_nil ?_)
  obtain ⟨z, ⟨gx, rfl, hgx, hbx⟩, hF⟩ := hF.open (s := 9) rfl
  have hgx : w9.heap.size ≤ gx := hgx
  have hgx : w.heap.size ≤ gx := Nat.le_trans hw9 hgx
  refine tlStoreV (Δ := [(1, Ty.ex (.int .i64 (N : Int))), (9, Ty.ex (.pointer (some ⟨gx, 0, none⟩)))]) hF rfl rfl rfl rfl (hF.getEx (s := 33) rfl) hbx (by show (u8s _).size = (u8s _).size; rw [u8s_size, u8s_size, Sm.len]; rfl) (by show _ = some (u8s _).size; rw [u8s_size, Sm.len]; exact sizeR) (u8s_one _) (hF.keep [1, 9]) rfl ?_
  intro w11 hF hbx hkx
  refine wpList_nil ?_
  replace hB := below_own hB hkx (by intro y hy; simp only [List.mem_singleton] at hy; omega)
  have hax : (Ty.at_ 112 Y.enc).p w11 (.pointer (some ⟨gx, 0, none⟩)) := by
    have h := blk_at hbx
    rwa [show (Value.agg (u8s Y.l)).cells.toList = Y.enc from u8s_list _] at h
  replace hF := hF.as hF (s := 9) (σ := Ty.at_ 112 Y.enc) rfl (fun v hv => by have hv : v = .pointer (some ⟨gx, 0, none⟩) := hv; subst hv; exact hax)
  obtain ⟨p, hp⟩ : ∃ p, p = N / 3 := ⟨_, rfl⟩
  have hp1 : 1 ≤ p := by omega
  have hp2 : p ≤ 400 := by omega
  rw [← hp]
  repeat with_reducible first | refine wp_seq ?_ | refine nThen ?_
  refine' reg_all hF ?_ mixed (by kernel_rfl) ?_
  rotate_left
  · repeat (first | exact Line.nil | ((refine' Line.cons rfl (.run rfl rfl ?_) ?_); (any_goals exact cAssign rfl rfl); rotate_left))
  intro a w12 hF hb hN
  have hBs := hB.size
  replace hB := hB.trans (hb.mono hB.size)
  dsimp only [ext, Option.getD] at hF
  repeat with_reducible first | refine wp_seq ?_ | refine nThen ?_
  refine' reg_all hF ?_ mixed (by kernel_rfl) ?_
  rotate_left
  · repeat (first | exact Line.nil | ((refine' Line.cons rfl (.run rfl rfl ?_) ?_); (any_goals (first | exact cMove rfl rfl | exact cAssign rfl rfl | exact cQuoI (n := 3) (r := p) rfl rfl rfl (by decide) hp.symm (by omega))); rotate_left))
  intro a w13 hF hb hN
  have hBs := hB.size
  replace hB := hB.trans (hb.mono hB.size)
  dsimp only [ext, Option.getD] at hF
  repeat with_reducible first | refine wp_seq ?_ | refine nThen ?_
  refine' reg_all hF ?_ mixed (by kernel_rfl) ?_
  rotate_left
  · repeat (first | exact Line.nil | ((refine' Line.cons rfl (.run rfl rfl ?_) ?_); (any_goals exact cAssign rfl rfl); rotate_left))
  intro a w14 hF hb hN
  have hBs := hB.size
  replace hB := hB.trans (hb.mono hB.size)
  dsimp only [ext, Option.getD] at hF
  repeat with_reducible first | refine nThen ?_ | refine wp_block ?_
  refine loop_ty (fun m a wr => ∃ (k : Nat) (u : Value) (S : List Nat), k + m = 3 ∧ Fr 55 [(9, Ty.at_ 112 Y.enc), (11, Ty.ex (.int .i64 (p : Int))), (10, Ty.ex u), (12, Ty.ex (.int .i64 (k : Int)))] a wr ∧ Below w.heap.size w wr ∧ Seg wr 3 1 u k ((plc Y p k).map ivn) S ∧ ∀ y ∈ S, w.heap.size ≤ y) 3 ?_ ?_
  · exact ⟨0, _, [], by omega, hF.keep [9, 11, 10, 12], hB, Seg.nil _ _ _, by simp⟩
  clear hF hB
  rintro m a wr ⟨k, u, S, hk, hF, hB, hseg, hS⟩
  repeat with_reducible refine wp_seq ?_
  refine' reg_all hF ?_ mixed (by kernel_rfl) ?_
  rotate_left
  · repeat (first | exact Line.nil | ((refine' Line.cons rfl (.run rfl rfl ?_) ?_); (any_goals (first | exact cMove rfl rfl | exact cLss rfl rfl rfl)); rotate_left))
  intro a w15 hF hb hN
  have hBs := hB.size
  replace hB := hB.trans (hb.mono hB.size)
  dsimp only [ext, Option.getD] at hF
  repeat with_reducible refine nThen ?_
  replace hseg := hseg.below hb
  refine cond_ty hF rfl (fun hlt => ?_) (fun hge => ?_)
  · have hlt : k < 3 := by have := of_decide_eq_true hlt; omega
    have hW := rword_ty Y k (by omega)
    have hWl := word_lt Y k
    have hnx : (plc Y p k).map ivn ++ [ivn (k * p + wordF Y.l k 8 % p)] = (plc Y p (k + 1)).map ivn := by rw [plc]; simp
    have hm : wordF Y.l k 8 % p < p := Nat.mod_lt _ (by omega)
    have hkp : k * p ≤ 2 * p := Nat.mul_le_mul_right _ (by omega)
    generalize wordF Y.l k 8 = V at *
    generalize hM : V % p = M at *
    repeat with_reducible first | refine wp_seq ?_ | refine nThen ?_ | refine wp_skip ?_ | refine wp_block ?_
    refine' region_ty 13 mixed (by kernel_rfl) hF ?_ ?_
    rotate_left
    · simp only [List.take_succ_cons, List.take_zero]
      repeat (first | exact Line.nil | ((refine' Line.cons rfl (.run rfl rfl ?_) ?_); (any_goals (first | exact cMove rfl rfl | exact cMul (r := ((k * p : Nat) : Int)) rfl rfl rfl ⟨by rw [Int.natCast_mul], by omega, by omega⟩ | exact cLoadSum rfl (.t rfl) Tryd.underlying112 sizeR | exact cCall2 rfl rfl rfl hW | exact cConvR (r := (p : Int)) rfl rfl Tryd.underlying3 Tryd.underlying22 (by rw [IntKind.wrap_u64]; omega) | exact cRemU (n := p) (r := M) rfl rfl rfl (by omega) hM | exact cConvR (r := (M : Int)) rfl rfl Tryd.underlying22 Tryd.underlying3 (IntWalk.i64_in _ (by omega)) | exact cAdd (r := ((k * p + M : Nat) : Int)) rfl rfl rfl ⟨by rw [Int.natCast_add], by omega, by omega⟩ | exact cBuildV (vs := [ivn (k * p + M)]) rfl (parts1v rfl rfl) Tryd.underlying23 infoInt rfl (by simp [Value.cells, ivn]) (by decide) (by simp [maxLen]))); rotate_left))
    intro a w16 hF hb hN
    have hBs := hB.size
    replace hB := hB.trans (hb.mono hB.size)
    simp only [List.take_succ_cons, List.take_zero, List.drop_succ_cons, List.drop_zero] at hF hN ⊢
    dsimp only [ext, Option.getD] at hF
    replace hseg := hseg.below hb
    refine tlAppend (Δ := [(9, Ty.at_ 112 Y.enc), (11, Ty.ex (.int .i64 (p : Int))), (12, Ty.ex (.int .i64 (k : Int)))]) (n := k) (m := 1) (news := [ivn (k * p + M)]) hF rfl rfl rfl rfl Tryd.underlying23 infoInt rfl rfl hseg (.t rfl) sl_news rfl (by simp [ivn, Value.oneCell']) (by simp [maxLen]; omega) (by omega) (hF.keep [9, 11, 12]) rfl ?_
    intro a w17 u' S' hF hseg' hk14 hS'
    have hbS : ∀ y ∈ S', w.heap.size ≤ y := own_next hB hS hS'
    replace hB := below_own hB hk14 hS
    rw [hnx] at hseg'
    refine' tlOp hF rfl rfl rfl ?_ ?_
    rotate_left
    · exact cAssign rfl rfl
    intro a w18 hF hb
    have hBs := hB.size
    replace hB := hB.trans (hb.mono hB.size)
    try (refine wpList_nil ?_)
    repeat with_reducible first | refine nThen ?_ | refine nBlk ?_
    replace hseg' := hseg'.below hb
    refine' reg_all hF ?_ mixed (by kernel_rfl) ?_
    rotate_left
    · repeat (first | exact Line.nil | ((refine' Line.cons rfl (.run rfl rfl ?_) ?_); (any_goals (first | exact cMove rfl rfl | exact cAssign rfl rfl | exact cAdd (r := ((k + 1 : Nat) : Int)) rfl rfl rfl (by omega))); rotate_left))
    intro a w19 hF hb hN
    have hBs := hB.size
    replace hB := hB.trans (hb.mono hB.size)
    dsimp only [ext, Option.getD] at hF
    repeat with_reducible refine nThen ?_
    exact ⟨m - 1, by omega, k + 1, u', S', by omega, hF.keep [9, 11, 10, 12], hB, hseg'.below hb, hbS⟩
  have hge : ¬ k < 3 := by have := of_decide_eq_false hge; omega
  obtain rfl : k = 3 := by omega
  repeat with_reducible first | refine wp_seq ?_ | refine nThen ?_ | refine wp_exit ?_ | refine xThen ?_ | refine xHere ?_
  refine' reg_all hF ?_ mixed (by kernel_rfl) ?_
  rotate_left
  · repeat (first | exact Line.nil | ((refine' Line.cons rfl (.run rfl rfl ?_) ?_); (any_goals (first | exact cMove rfl rfl | exact cAssign rfl rfl)); rotate_left))
  intro a w16 hF hb hN
  have hBs := hB.size
  replace hB := hB.trans (hb.mono hB.size)
  dsimp only [ext, Option.getD] at hF
  repeat with_reducible first | refine nThen ?_ | refine wp_ret ?_
  refine ret1 hF rfl rfl fun z hz => ?_
  have hz : z = u := hz
  subst hz
  exact ⟨z, rfl, (hseg.below hb).sl, hB⟩
end Go.Proofs.YtgmeagkolahkoaaDoor
